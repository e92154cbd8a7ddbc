/- A PART OF THE PROOF: an abstract run of the loaded code over value trees, and the functions walked by it. No condition of its own. -/
import Derived.Test.YtanmknmlphkeaaaGreatDoorGA2
namespace Go.Proofs.Aw
open Go Go.RowKit

theorem RepL.write {m : Me} {N : Nat} {cs xs : List LV} {ys vs : List Value} (h : RepL m N cs ys) (hx : RepL m N xs vs) (off : Nat) : RepL m N (writeL cs off xs) (ys.take off ++ vs ++ ys.drop (off + vs.length)) := by
  rw [List.append_assoc]
  refine (h.take off).append (hx.append ?_)
  rw [hx.length]
  exact h.drop _

def upd (g : Nat → List LV) (i : Nat) (c : List LV) : Nat → List LV := fun j => match Nat.beq j i with
  | true => c
  | false => g j

/-- a place in memory is written -/
def storeK (st : St) (x : LV) (xs : List LV) (k : St → Prop) : Prop := match x with
  | .lp o off => match lookO o st.objs with
    | some (.box ty cs) => match Nat.ble (off + xs.length) cs.length with
      | true => frcC (writeL cs off xs) fun cs' => k (st.setO o (.box ty cs'))
      | false => False
    | _ => False
  | .el o sz i off => match lookO o st.objs with
    | some (.arr ty sz' n g) => match Nat.beq sz sz' && Nat.beq (g i).length sz && Nat.ble (off + xs.length) sz && underL 0 xs with
      | true => k (st.setO o (.arr ty sz n (upd g i (writeL (g i) off xs))))
      | false => False
    | _ => False
  | _ => False

theorem setRow_block (w : World) (g : Nat) (cs cs' : Array Value) (t : TypeId) (fr : Nat × Nat) (h : w.heap[g]? = some (.cells cs t fr)) : (w.setRow g cs').heap[g]? = some (.cells cs' t fr) := setRow_heap w g cs cs' t fr h

theorem setRow_other (w : World) (g : Nat) (cs' : Array Value) (k : Nat) (h : k ≠ g) : (w.setRow g cs').heap[k]? = w.heap[k]? := by
  simp only [World.setRow, Array.getElem?_modify]
  rw [if_neg (fun e => h e.symm)]
theorem setRow_size (w : World) (g : Nat) (cs' : Array Value) : (w.setRow g cs').heap.size = w.heap.size := by simp [World.setRow]
theorem setRow_sys (w : World) (g : Nat) (cs' : Array Value) : SameSys w (w.setRow g cs') := ⟨rfl, rfl, rfl⟩

theorem run_storeVar_at {P : Program} {t : TypeId} {ti : TI} (ht : ti.ok P t) {w : World} {b off : Nat} {ty : TypeId} {cur : Array Value} (hb : w.heap[b]? = some (.cells cur ty (0, 0))) {v : Value} (hv : v.cells.size = ti.size) (h1 : ∀ u ∈ v.cells.toList, u.oneCell' = true) (hl : off + ti.size ≤ cur.size) :
    (storeVar t ⟨b, off, none⟩ v).run P w = .ok () (w.setRow b (cur.toList.take off ++ v.cells.toList ++ cur.toList.drop (off + v.cells.toList.length)).toArray) := by
  have := run_storeCells_at (P := P) b off ty v.cells.toList 0 cur w hb (by simp; omega) h1
  simp only [Nat.add_zero] at this
  simp only [storeVar, Sem.run_bind, run_sizeOf ht, Result.andThen_ok, hv, ne_eq, not_true_eq_false, if_false, this]


/-- a list of which a part is other -/
def wr (l : List Value) (o : Nat) (vs : List Value) : List Value := l.take o ++ vs ++ l.drop (o + vs.length)
theorem wr_length {l : List Value} {o : Nat} {vs : List Value} (h : o + vs.length ≤ l.length) : (wr l o vs).length = l.length := by
  simp [wr]; omega
theorem wr_get {l : List Value} {o : Nat} {vs : List Value} (h : o + vs.length ≤ l.length) (j : Nat) : (wr l o vs)[j]? = if o ≤ j ∧ j < o + vs.length then vs[j - o]? else l[j]? := by
  simp only [wr, List.getElem?_append, List.length_append, List.length_take]
  have e : min o l.length = o := by omega
  rw [e]
  split
  · rename_i h1
    split
    · rename_i h2
      rw [if_neg (by omega), List.getElem?_take, if_pos h2]
    · rename_i h2
      rw [if_pos (by omega)]
  · rename_i h1
    rw [if_neg (by omega), List.getElem?_drop]
    congr 1
    omega
theorem wr_take {l : List Value} {o : Nat} {vs : List Value} (n : Nat) (h : o + vs.length ≤ n) (hn : n ≤ l.length) : (wr l o vs).take n = wr (l.take n) o vs := by
  apply List.ext_getElem?
  intro j
  rw [List.getElem?_take, wr_get (by omega), wr_get (by rw [List.length_take]; omega), List.getElem?_take]
  by_cases hj : j < n
  · simp [hj]
  · rw [if_neg hj, if_neg (by omega), if_neg hj]
theorem wr_seg {l : List Value} {o : Nat} {vs : List Value} (a n : Nat) (h1 : a ≤ o) (h2 : o + vs.length ≤ a + n) (hn : a + n ≤ l.length) : ((wr l o vs).drop a).take n = wr ((l.drop a).take n) (o - a) vs := by
  apply List.ext_getElem?
  intro j
  rw [List.getElem?_take, List.getElem?_drop, wr_get (by omega), wr_get (by rw [List.length_take, List.length_drop]; omega), List.getElem?_take, List.getElem?_drop]
  by_cases hj : j < n
  · rw [if_pos hj, if_pos hj]
    by_cases h3 : o ≤ a + j ∧ a + j < o + vs.length
    · rw [if_pos h3, if_pos (by omega)]; congr 1; omega
    · rw [if_neg h3, if_neg (by omega)]
  · rw [if_neg hj, if_neg hj, if_neg (by omega)]
theorem wr_far {l : List Value} {o : Nat} {vs : List Value} (a n : Nat) (h : o + vs.length ≤ l.length) (hf : a + n ≤ o ∨ o + vs.length ≤ a) : ((wr l o vs).drop a).take n = (l.drop a).take n := by
  apply List.ext_getElem?
  intro j
  rw [List.getElem?_take, List.getElem?_take, List.getElem?_drop, List.getElem?_drop, wr_get h]
  by_cases hj : j < n
  · rw [if_pos hj, if_pos hj, if_neg (by omega)]
  · rw [if_neg hj, if_neg hj]

theorem storeK_sound {P : Program} {t : TypeId} {ti : TI} (ht : ti.ok P t) {org : Me} {st : St} {m : Me} {tm : Array Value} (h : Ok org st m tm) {x : LV} {y v : Value} {xs : List LV} {k : St → Prop}
    (hk : storeK st x xs k) (hy : Rep m st.next x y) (hsz : xs.length = ti.size) (hv : RepL m st.next xs v.cells.toList) (h1 : ∀ u ∈ v.cells.toList, u.oneCell' = true) :
    ∃ st' m', (Instr.storeAt t y v).run P m.w = .ok () m'.w ∧ k st' ∧ Ok org st' m' tm := by
  have hvs : v.cells.size = ti.size := by have := hv.length; simp at this; omega
  have hvl : v.cells.toList.length = ti.size := by simpa using hvs
  have go : ∀ (b off : Nat) (ty : TypeId) (cur : Array Value), m.w.heap[b]? = some (.cells cur ty (0, 0)) → off + ti.size ≤ cur.size → (Instr.storeAt t (.pointer (some ⟨b, off, none⟩)) v).run P m.w = .ok () (m.w.setRow b (wr cur.toList off v.cells.toList).toArray) := by
    intro b off ty cur hb hl
    have := run_storeVar_at ht hb hvs h1 hl
    simp only [Instr.storeAt, Instr.sureAddr, wr]
    simpa using this
  cases x with
  | lp o off =>
    simp only [storeK] at hk
    split at hk
    · rename_i ty cs ho
      split at hk
      · rename_i hl
        rw [Nat.ble_eq] at hl
        rw [frcC_eq] at hk
        obtain ⟨h2, ⟨b, ys, h3, h4, h5, h6⟩, h7⟩ := h.sim.obj o _ ho
        obtain ⟨_, b', h8, rfl⟩ := hy
        rw [h3] at h8
        injection h8 with h8; injection h8 with h8; injection h8 with h8
        subst h8
        have hlen := h5.length
        have hf : (m.w.setRow b (wr ys off v.cells.toList).toArray).heap.size = m.w.heap.size := by simp
        have hfr : Fr m (m.on (m.w.setRow b (wr ys off v.cells.toList).toArray) (by rw [hf]; exact Nat.le_refl _)) :=
          ⟨rfl, rfl, rfl, by show m.w.heap.size ≤ (m.w.setRow b _).heap.size; rw [hf]; exact Nat.le_refl _, fun k hk1 hw => setRow_other _ _ _ _ (fun e => hw (by rw [e]; exact (h7 b (by rw [h3]; rfl)).1)), fun k hk => .inl hk, fun k hk => .inl hk, fun k hk _ => hk, fun _ _ => rfl, Nat.le_refl _⟩
        have hw := h.write (m.w.setRow b (wr ys off v.cells.toList).toArray) o (.box ty cs) (.box ty (writeL cs off xs)) ho ⟨rfl, rfl, rfl⟩ (by rw [hf]; exact Nat.le_refl _)
          (fun k hk1 hk2 => setRow_other _ _ _ _ (fun e => hk2 (by rw [h3, e]; rfl)))
          ⟨b, wr ys off v.cells.toList, h3, setRow_block _ _ _ _ _ _ h4, by
            have := RepL.fr hfr st.next st.next (by rw [h.sim.n]; exact Nat.le_refl _) (Nat.le_refl _) _ _ (h5.write hv off)
            exact this, fun u hu => by
            simp only [wr, List.mem_append] at hu
            rcases hu with (hu | hu) | hu
            · exact h6 u (List.mem_of_mem_take hu)
            · exact h1 u hu
            · exact h6 u (List.mem_of_mem_drop hu)⟩
        exact ⟨_, _, go b off ty ys.toArray h4 (by simp; omega), hk, hw.1⟩
      · exact hk.elim
    · exact hk.elim
  | el o sz i off =>
    simp only [storeK] at hk
    split at hk
    · rename_i ty sz' n g ho
      split at hk
      · rename_i hl
        simp only [Bool.and_eq_true] at hl
        obtain ⟨⟨⟨e1, e2⟩, e3⟩, e4⟩ := hl
        have e1 := Nat.eq_of_beq_eq_true e1
        have e2 := Nat.eq_of_beq_eq_true e2
        rw [Nat.ble_eq] at e3
        subst e1
        obtain ⟨h2, ⟨zs, h3, h4, h5⟩, h7⟩ := h.sim.obj o _ ho
        obtain ⟨_, b, n', c, h8, h9, rfl⟩ := hy
        have hb8 := h8
        rw [h8] at h3
        obtain ⟨rfl, cur, h10, h11, h12, h13, h14⟩ := own_block h3
        have hzl : zs.length = n' * sz := h3.1
        have hle : i * sz + sz ≤ n' * sz := by
          have := Nat.mul_le_mul_right sz (show i + 1 ≤ n' by omega)
          rw [Nat.add_mul] at this; omega
        have hcs : n' * sz ≤ cur.size := by rw [h13]; exact Nat.mul_le_mul_right sz h11
        have hvz : v.cells.toList.length = xs.length := by omega
        have hf : (m.w.setRow b (wr cur.toList (i * sz + off) v.cells.toList).toArray).heap.size = m.w.heap.size := by simp
        have hfr : Fr m (m.on (m.w.setRow b (wr cur.toList (i * sz + off) v.cells.toList).toArray) (by rw [hf]; exact Nat.le_refl _)) :=
          ⟨rfl, rfl, rfl, by show m.w.heap.size ≤ (m.w.setRow b _).heap.size; rw [hf]; exact Nat.le_refl _, fun k hk1 hw => setRow_other _ _ _ _ (fun e => hw (by rw [e]; exact (h7 b (by rw [h8]; rfl)).1)), fun k hk => .inl hk, fun k hk => .inl hk, fun k hk _ => hk, fun _ _ => rfl, Nat.le_refl _⟩
        have hw := h.write (m.w.setRow b (wr cur.toList (i * sz + off) v.cells.toList).toArray) o (.arr ty sz n' g) (.arr ty sz n' (upd g i (writeL (g i) off xs))) ho ⟨rfl, rfl, rfl⟩ (by rw [hf]; exact Nat.le_refl _)
          (fun k hk1 hk2 => setRow_other _ _ _ _ (fun e => hk2 (by rw [h8, e]; rfl)))
          ⟨wr zs (i * sz + off) v.cells.toList, by
            rw [h8]
            refine ⟨by rw [wr_length (by omega)]; exact hzl, .inr ⟨b, c, (wr cur.toList (i * sz + off) v.cells.toList).toArray, rfl, Nat.zero_le _, setRow_block _ _ _ _ _ _ h10, h11, h12, ?_, ?_⟩⟩
            · simp only [List.size_toArray]; rw [wr_length (by simp; omega)]; simpa using h13
            · simp only []
              rw [wr_take _ (by omega) (by simpa using hcs), h14], fun u hu => by
            simp only [wr, List.mem_append] at hu
            rcases hu with (hu | hu) | hu
            · exact h4 u (List.mem_of_mem_take hu)
            · exact h1 u hu
            · exact h4 u (List.mem_of_mem_drop hu), fun j hj => by
            obtain ⟨ys, h15, h16, h17⟩ := h5 j hj
            by_cases e : j = i
            · subst e
              refine ⟨wr ys off v.cells.toList, ?_, by rw [wr_length (by omega)]; exact h16, ?_⟩
              · simp only [upd, beqT]
                have hv0 : RepL m 0 xs v.cells.toList := RepL.down xs _ e4 hv
                exact RepL.fr hfr 0 0 (Nat.zero_le _) (Nat.le_refl _) _ _ (h15.write hv0 off)
              · rw [wr_seg _ _ (by omega) (by omega) (by omega), h17]; congr 1; omega
            · refine ⟨ys, ?_, h16, ?_⟩
              · simp only [upd, beqF e]
                exact RepL.fr hfr 0 0 (Nat.zero_le _) (Nat.le_refl _) _ _ h15
              · rw [wr_far _ _ (by omega), h17]
                have hle2 : j * sz + sz ≤ i * sz ∨ i * sz + sz ≤ j * sz := by
                  rcases Nat.lt_or_gt_of_ne e with h | h
                  · left; have := Nat.mul_le_mul_right sz (show j + 1 ≤ i by omega); rw [Nat.add_mul] at this; omega
                  · right; have := Nat.mul_le_mul_right sz (show i + 1 ≤ j by omega); rw [Nat.add_mul] at this; omega
                rcases hle2 with h | h
                · left; omega
                · right; omega⟩
        exact ⟨_, _, go b (i * sz + off) ty cur h10 (by omega), hk, hw.1⟩
      · exact hk.elim
    · exact hk.elim
  | _ => exact hk.elim

end Go.Proofs.Aw
namespace Go.Proofs.Aw
open Go Go.RowKit

/-- an address some cells on -/
def addO (x : LV) (d : Nat) (k : LV → Prop) : Prop := match x with
  | .lp o off => k (.lp o (off + d))
  | .sp cs off => k (.sp cs (off + d))
  | .el o sz i off => k (.el o sz i (off + d))
  | _ => False

theorem addO_sound {m : Me} {N : Nat} {x : LV} {d : Nat} {k : LV → Prop} {y : Value} (h : addO x d k) (hr : Rep m N x y) : ∃ x' b o, k x' ∧ y = .pointer (some ⟨b, o, none⟩) ∧ Rep m N x' (.pointer (some ⟨b, o + d, none⟩)) := by
  cases x with
  | lp o off => obtain ⟨h1, b, h2, rfl⟩ := hr; exact ⟨_, b, off, h, rfl, h1, b, h2, rfl⟩
  | sp cs off => obtain ⟨b, o, ys, rfl, h1⟩ := hr; exact ⟨_, b, o + off, h, rfl, b, o, ys, by rw [Nat.add_assoc], h1⟩
  | el o sz i off => obtain ⟨h1, b, n, c, h2, h3, rfl⟩ := hr; exact ⟨_, b, i * sz + off, h, rfl, h1, b, n, c, h2, h3, by rw [Nat.add_assoc]⟩
  | _ => exact h.elim

theorem run_fieldAt {P : Program} {s : TypeId} {ti : TI} (hs : ti.ok P s) {fs : List (Nat × TypeId)} (hk : ti.k = .struct fs) {f : Nat} {p : Nat × TypeId} (hf : nth fs f = some p) {te : TI} (ht : te.ok P p.2) (h0 : Nat.blt 0 te.size = true) (w : World) (b o : Nat) :
    (Instr.fieldAt s (.pointer (some ⟨b, o, none⟩)) f).run P w = .ok (.pointer (some ⟨b, o + p.1, none⟩)) w := by
  have h1 := hs.k
  rw [hk] at h1
  obtain ⟨a, h2, h3⟩ := h1
  rw [nth_eq, ← h3] at hf
  simp only [List.getElem?_map, Option.map_eq_some_iff] at hf
  obtain ⟨fl, h4, rfl⟩ := hf
  have h5 : a[f]? = some fl := by simpa using h4
  have h6 : te.size ≠ 0 := by have := Nat.blt_eq.mp h0; omega
  simp only [Instr.fieldAt, Sem.run_bind, run_underlying h2, Result.andThen_ok, h5, Instr.sureAddr, fieldPlace, run_sizeOf ht]
  simp [h6, add_at]

theorem run_indexAt_arr {P : Program} {t e : TypeId} {n : Nat} (hu : P.underlying t = some (.array n e)) {te : TI} (ht : te.ok P e) (k : IntKind) (i : Int) (h0 : 0 ≤ i) (h1 : i < n) (w : World) (b o : Nat) :
    (Instr.indexAt t (.pointer (some ⟨b, o, none⟩)) (.int k i)).run P w = .ok (.pointer (some ⟨b, o + i.toNat * te.size, none⟩)) w := by
  simp [Instr.indexAt, run_underlying hu, asIntOf, Instr.sureAddr, h0, h1, run_sizeOf ht, add_at]

theorem run_indexAt_sl {P : Program} {t e : TypeId} (hu : P.underlying t = some (.slice e)) {te : TI} (ht : te.ok P e) (k : IntKind) (i : Int) (n c : Nat) (h0 : 0 ≤ i) (h1 : i < n) (w : World) (b o : Nat) :
    (Instr.indexAt t (.slice (some ⟨b, o, none⟩) n c) (.int k i)).run P w = .ok (.pointer (some ⟨b, o + i.toNat * te.size, none⟩)) w := by
  simp [Instr.indexAt, run_underlying hu, asIntOf, h0, h1, run_sizeOf ht, add_at]

theorem run_part {P : Program} {t : TypeId} {ti : TI} (ht : ti.ok P t) {m : Me} {N : Nat} {cs : List LV} {ys : List Value} (hr : RepL m N cs ys) (h1 : ∀ u ∈ ys, u.oneCell' = true) {off : Nat} {k : LV → Prop} (h : loadK ti cs off k) (w : World) :
    ∃ x y, k x ∧ Rep m N x y ∧ (part t ys.toArray off).run P w = .ok y w := by
  unfold loadK at h
  split at h
  · rename_i ha
    split at h
    · rename_i hl
      rw [Nat.ble_eq] at hl
      have hlen := hr.length
      refine ⟨_, .agg ((ys.drop off).take ti.size).toArray, h, ⟨_, rfl, (hr.drop off).take _, fun u hu => h1 u (List.mem_of_mem_drop (List.mem_of_mem_take hu))⟩, ?_⟩
      simp only [part, Sem.run_bind, run_isAgg ht, Result.andThen_ok, ha, if_true, run_sizeOf ht]
      simp only [List.extract_toArray, Sem.run_pure]
      congr 3
      rw [List.extract_eq_take_drop]
      congr 1
      omega
    · exact h.elim
  · rename_i ha
    split at h
    · rename_i x hx
      rw [nth_eq] at hx
      obtain ⟨y, hy, h2⟩ := hr.get off x hx
      refine ⟨x, y, h, h2, ?_⟩
      simp [part, run_isAgg ht, ha, hy]
    · exact h.elim

theorem run_field {P : Program} {s : TypeId} {ti : TI} (hs : ti.ok P s) {fs : List (Nat × TypeId)} (hk : ti.k = .struct fs) {f : Nat} {p : Nat × TypeId} (hf : nth fs f = some p) {te : TI} (ht : te.ok P p.2)
    {m : Me} {N : Nat} {cs : List LV} {ys : List Value} (hr : RepL m N cs ys) (h1 : ∀ u ∈ ys, u.oneCell' = true) {k : LV → Prop} (h : loadK te cs p.1 k) (w : World) :
    ∃ x y, k x ∧ Rep m N x y ∧ (Instr.field s (.agg ys.toArray) f).run P w = .ok y w := by
  have h2 := hs.k
  rw [hk] at h2
  obtain ⟨a, h3, h4⟩ := h2
  rw [nth_eq, ← h4] at hf
  simp only [List.getElem?_map, Option.map_eq_some_iff] at hf
  obtain ⟨fl, h5, rfl⟩ := hf
  have h6 : a[f]? = some fl := by simpa using h5
  obtain ⟨x, y, h7, h8, h9⟩ := run_part ht hr h1 h w
  refine ⟨x, y, h7, h8, ?_⟩
  simp only [Instr.field, Sem.run_bind, run_underlying h3, Result.andThen_ok, h6, asAgg, Sem.run_pure, h9]

theorem run_index_arr {P : Program} {t e : TypeId} {n : Nat} (hu : P.underlying t = some (.array n e)) {te : TI} (ht : te.ok P e) (ik : IntKind) (i : Int) (h0 : 0 ≤ i) (hn : i < n)
    {m : Me} {N : Nat} {cs : List LV} {ys : List Value} (hr : RepL m N cs ys) (h1 : ∀ u ∈ ys, u.oneCell' = true) {k : LV → Prop} (h : loadK te cs (i.toNat * te.size) k) (w : World) :
    ∃ x y, k x ∧ Rep m N x y ∧ (Instr.index t (.agg ys.toArray) (.int ik i)).run P w = .ok y w := by
  obtain ⟨x, y, h7, h8, h9⟩ := run_part ht hr h1 h w
  refine ⟨x, y, h7, h8, ?_⟩
  simp only [Instr.index, Sem.run_bind, asIntOf, Sem.run_pure, Result.andThen_ok, run_underlying hu, h0, hn, and_self, if_true, run_sizeOf ht, h9]

theorem run_index_str {P : Program} {t : TypeId} (hu : P.underlying t = some .string) (ik : IntKind) (i : Int) (l : List UInt8) (h0 : 0 ≤ i) (hn : i < (l.length : Int)) (w : World) :
    (Instr.index t (strV l) (.int ik i)).run P w = .ok (.int .u8 ((l.getD i.toNat 0).toNat : Int)) w := by
  have h1 : i.toNat < l.length := by omega
  have h2 : (⟨l.toArray⟩ : ByteArray)[i.toNat]? = some (l.getD i.toNat 0) := by
    rw [getElem?_pos (⟨l.toArray⟩ : ByteArray) i.toNat h1]
    simp only [List.getD, List.getElem?_eq_getElem h1]
    rfl
  simp [Instr.index, strV, asIntOf, run_underlying hu, h0, h2]

/-! ### numbers and texts -/
def kEq : IntKind → IntKind → Bool
  | .i8, .i8 | .i16, .i16 | .i32, .i32 | .i64, .i64 | .u8, .u8 | .u16, .u16 | .u32, .u32 | .u64, .u64 => true
  | _, _ => false
theorem kEq_eq {a b : IntKind} (h : kEq a b = true) : a = b := by cases a <;> cases b <;> first | rfl | cases h

def bitsA (op : BinOp) (k : IntKind) (a b : Int) : Int :=
  let x := BitVec.ofInt k.bits a
  let y := BitVec.ofInt k.bits b
  match op with
  | .and => k.wrap (x &&& y).toNat
  | .or => k.wrap (x ||| y).toNat
  | .xor => k.wrap (x ^^^ y).toNat
  | _ => k.wrap (x &&& ~~~y).toNat

def intA (op : BinOp) (k : IntKind) (a b : Int) (K : LV → Prop) : Prop := match op with
  | .add => K (.v (.int k (k.wrap (a + b))))
  | .sub => K (.v (.int k (k.wrap (a - b))))
  | .mul => K (.v (.int k (k.wrap (a * b))))
  | .quo => b ≠ 0 ∧ K (.v (.int k (k.wrap (a.tdiv b))))
  | .rem => b ≠ 0 ∧ K (.v (.int k (a.tmod b)))
  | .and => K (.v (.int k (bitsA .and k a b)))
  | .or => K (.v (.int k (bitsA .or k a b)))
  | .xor => K (.v (.int k (bitsA .xor k a b)))
  | .andNot => K (.v (.int k (bitsA .andNot k a b)))
  | .eql => K (.bs (a == b))
  | .neq => K (.bs (a != b))
  | .lss => K (.bs (decide (a < b)))
  | .leq => K (.bs (decide (a ≤ b)))
  | .gtr => K (.bs (decide (a > b)))
  | .geq => K (.bs (decide (a ≥ b)))
  | _ => False

def strA (op : BinOp) (a b : List UInt8) (K : LV → Prop) : Prop := match op with
  | .add => a.length + b.length ≤ 9223372036854775807 ∧ K (.str (a ++ b))
  | .eql => K (.bs (a == b))
  | .neq => K (.bs (a != b))
  | .lss => K (.bs (Op.bytesLess a b))
  | .leq => K (.bs (Op.bytesLess a b || a == b))
  | .gtr => K (.bs (!(Op.bytesLess a b || a == b)))
  | .geq => K (.bs (!Op.bytesLess a b))
  | _ => False

end Go.Proofs.Aw
namespace Go.Proofs.Aw
open Go Go.RowKit

/-- '==' of two structs, or arrays, whose cells these are, tells b -/
def EqF (P : Program) (t : TypeId) (cs ds : List LV) (b : Bool) : Prop :=
  ∀ (m : Me) (N : Nat) (ys zs : List Value) (w : World) (op : BinOp) (x y : Operand), RepL m N cs ys → RepL m N ds zs →
    (eqGuard op t x y (.agg ys.toArray) (.agg zs.toArray)).run P w = .ok () w ∧ (Op.equal t (.agg ys.toArray) (.agg zs.toArray)).run P w = .ok b w

def boolA : LV → Option Bool
  | .v (.bool b) => some b
  | .bs b => some b
  | _ => none
theorem boolA_sound {m : Me} {N : Nat} {x : LV} {y : Value} {b : Bool} (h : boolA x = some b) (hr : Rep m N x y) : y = .bool b := by
  cases x with
  | bs c => injection h with h; subst h; exact hr
  | v c => cases c <;> first | (injection h with h; subst h; exact hr) | (cases h)
  | _ => cases h

def isNilS : LV → Bool
  | .v (.slice none 0 0) => true
  | _ => false
theorem isNilS_sound {m : Me} {N : Nat} {x : LV} {y : Value} (h : isNilS x = true) (hr : Rep m N x y) : y = .slice none 0 0 := by
  unfold isNilS at h
  split at h
  · exact hr
  · cases h

/-- is a slice nil? -/
def nilA (x : LV) (K : Bool → Prop) : Prop := match x with
  | .sl _ n _ => ∀ q : Bool, (q = true → n = 0) → K q
  | .ls _ n => ∀ q : Bool, (q = true → n = 0) → K q
  | .v (.slice none 0 0) => K true
  | _ => False
theorem nilA_sound {st : St} {m : Me} {tm : Array Value} (hs : Sim st m tm) {x : LV} {K : Bool → Prop} {y : Value} (h : nilA x K) (hr : Rep m st.next x y) : ∃ A n c, y = .slice A n c ∧ K A.isNone := by
  cases x with
  | sl sz n g =>
    obtain ⟨A, c, rfl, _, _, h1, _⟩ := hr
    exact ⟨A, n, c, rfl, h _ fun e => (h1 (by simpa using e)).1⟩
  | ls o n =>
    obtain ⟨h1, h2, A, c, h3, h4⟩ := hr
    exact ⟨A, n, c, h2.trans h3, h _ fun e => h4.nil (by simpa using e)⟩
  | v x =>
    cases x <;> first | exact h.elim | skip
    rename_i A n c
    cases A with
    | some a => exact h.elim
    | none =>
      cases n <;> cases c <;> first | exact ⟨none, 0, 0, hr, h⟩ | exact h.elim
  | _ => exact h.elim

def binA (P : Program) (T : Tab) (op : BinOp) (t : TypeId) (x y : LV) (K : LV → Prop) : Prop := match x, y with
  | .v (.int ka a), .v (.int kb b) => match op with
    | .shl => 0 ≤ b ∧ K (.v (.int ka (ka.wrap (a * 2 ^ (min b.toNat ka.bits)))))
    | .shr => 0 ≤ b ∧ K (.v (.int ka (a.fdiv (2 ^ (min b.toNat ka.bits)))))
    | _ => match kEq ka kb with
      | true => intA op ka a b K
      | false => False
  | .str a, .str b => strA op a b K
  | .agg cs, .agg ds => match op with
    | .eql => ∃ b, EqF P t cs ds b ∧ K (.bs b)
    | .neq => ∃ b, EqF P t cs ds b ∧ K (.bs (!b))
    | _ => False
  | x, y => match T.find t with
    | none => False
    | some ti => match ti.k with
      | .bool => match boolA x, boolA y with
        | some a, some b => match op with
          | .eql => K (.bs (a == b))
          | .neq => K (.bs (!(a == b)))
          | _ => False
        | _, _ => False
      | .slice _ => match isNilS y with
        | true => match op with
          | .eql => nilA x fun q => K (.bs q)
          | .neq => nilA x fun q => K (.bs (!q))
          | _ => False
        | false => False
      | _ => False


theorem run_eqGuard_plain {P : Program} (op : BinOp) (t : TypeId) (x y : Operand) (a b : Value) (w : World) (ha : a ≠ .nilIface) (hb : ∀ cs, a ≠ .agg cs) : (eqGuard op t x y a b).run P w = .ok () w := by
  unfold eqGuard
  cases op <;> first | (simp; done) | skip
  all_goals
    cases a <;> first | (cases b <;> simp; done) | (exact absurd rfl ha) | (exact absurd rfl (hb _)) | skip

theorem strV_list (l : List UInt8) : (⟨l.toArray⟩ : ByteArray).toList = l := by
  rw [ByteArray.toList_eq]
theorem strV_append (a b : List UInt8) : (⟨a.toArray⟩ ++ ⟨b.toArray⟩ : ByteArray) = ⟨(a ++ b).toArray⟩ := by
  apply ByteArray.ext
  simp
theorem strV_size (l : List UInt8) : (⟨l.toArray⟩ : ByteArray).size = l.length := rfl

theorem binA_int {P : Program} {op : BinOp} {t : TypeId} {k : IntKind} {a b : Int} {K : LV → Prop} (hs : op ≠ .shl ∧ op ≠ .shr) (h : intA op k a b K) (m : Me) (N : Nat) (w : World) :
    ∃ r v, K r ∧ Rep m N r v ∧ (binOp op t (.int k a) (.int k b)).run P w = .ok v w := by
  cases op <;> first | exact absurd rfl hs.1 | exact absurd rfl hs.2 | skip
  case add => exact ⟨_, _, h, rfl, by simp [binOp, Op.intArith]⟩
  case sub => exact ⟨_, _, h, rfl, by simp [binOp, Op.intArith]⟩
  case mul => exact ⟨_, _, h, rfl, by simp [binOp, Op.intArith]⟩
  case quo => exact ⟨_, _, h.2, rfl, by simp [binOp, Op.intDiv, h.1]⟩
  case rem => exact ⟨_, _, h.2, rfl, by simp [binOp, Op.intDiv, h.1]⟩
  case and => exact ⟨_, _, h, rfl, by simp [binOp, Op.intBits, bitsA]⟩
  case or => exact ⟨_, _, h, rfl, by simp [binOp, Op.intBits, bitsA]⟩
  case xor => exact ⟨_, _, h, rfl, by simp [binOp, Op.intBits, bitsA]⟩
  case andNot => exact ⟨_, _, h, rfl, by simp [binOp, Op.intBits, bitsA]⟩
  all_goals exact ⟨_, _, h, rfl, by simp [binOp, Op.intCmp]⟩

theorem binA_str {P : Program} {op : BinOp} {t : TypeId} {a b : List UInt8} {K : LV → Prop} (h : strA op a b K) (m : Me) (N : Nat) (w : World) :
    ∃ r v, K r ∧ Rep m N r v ∧ (binOp op t (strV a) (strV b)).run P w = .ok v w := by
  cases op <;> simp only [strA] at h
  case add =>
    refine ⟨_, strV (a ++ b), h.2, rfl, ?_⟩
    have h1 := h.1
    simp only [binOp, strV, Op.stringOp, strV_size, strV_append]
    rw [if_neg]
    · rfl
    · show ¬ ((a.length + b.length : Nat) : Int) > IntKind.i64.max
      simp [IntKind.max, IntKind.signed, IntKind.bits]; omega
  case eql => exact ⟨_, _, h, rfl, by simp [binOp, strV, Op.stringOp, strV_list]⟩
  case neq => exact ⟨_, _, h, rfl, by simp [binOp, strV, Op.stringOp, strV_list, bne]⟩
  all_goals first
    | exact h.elim
    | exact ⟨_, _, h, rfl, by simp [binOp, strV, Op.stringOp, strV_list]⟩

theorem run_eqlIn_bool {P : Program} (d : Nat) {t : TypeId} (ht : P.underlying t = some .bool) (a b : Bool) (w : World) : (Op.equalIn (d + 1) t (.bool a) (.bool b)).run P w = .ok (a == b) w := by
  simp [Op.equalIn, run_underlying ht]
theorem run_eqlIn_nil {P : Program} (d : Nat) {t e : TypeId} (ht : P.underlying t = some (.slice e)) (A : Option Addr) (n c : Nat) (w : World) : (Op.equalIn (d + 1) t (.slice A n c) (.slice none 0 0)).run P w = .ok A.isNone w := by
  cases A <;> simp [Op.equalIn, run_underlying ht]
theorem run_eql_bool {P : Program} {t : TypeId} (ht : P.underlying t = some .bool) (a b : Bool) (w : World) : (Op.equal t (.bool a) (.bool b)).run P w = .ok (a == b) w := by
  exact run_eqlIn_bool 9999 ht a b w
theorem run_eql_nil {P : Program} {t e : TypeId} (ht : P.underlying t = some (.slice e)) (A : Option Addr) (n c : Nat) (w : World) : (Op.equal t (.slice A n c) (.slice none 0 0)).run P w = .ok A.isNone w := by
  exact run_eqlIn_nil 9999 ht A n c w

theorem binA_sound {P : Program} {T : Tab} (hT : T.Ok P) {op : BinOp} {t : TypeId} {x y : LV} {K : LV → Prop} {st : St} {m : Me} {tm : Array Value} (hs : Sim st m tm) {a b : Value} (h : binA P T op t x y K)
    (ha : Rep m st.next x a) (hb : Rep m st.next y b) (o1 o2 : Operand) : ∃ r v, K r ∧ Rep m st.next r v ∧ (do eqGuard op t o1 o2 a b; binOp op t a b : Sem Value).run P m.w = .ok v m.w := by
  unfold binA at h
  split at h
  · rename_i ka a' kb b'
    have ha : a = .int ka a' := ha
    have hb : b = .int kb b' := hb
    subst ha; subst hb
    simp only [Sem.run_bind, run_eqGuard_plain op t o1 o2 (.int ka a') (.int kb b') m.w (by simp) (by simp), Result.andThen_ok]
    split at h
    · refine ⟨_, _, h.2, rfl, ?_⟩
      have : ¬ b' < 0 := by omega
      simp [binOp, Op.shift, this]
    · refine ⟨_, _, h.2, rfl, ?_⟩
      have : ¬ b' < 0 := by omega
      simp [binOp, Op.shift, this]
    · rename_i h1 h2
      split at h
      · rename_i hk
        have hk := kEq_eq hk
        subst hk
        exact binA_int ⟨h1, h2⟩ h m st.next m.w
      · exact h.elim
  · rename_i a' b'
    have ha : a = strV a' := ha
    have hb : b = strV b' := hb
    subst ha; subst hb
    simp only [Sem.run_bind, run_eqGuard_plain op t o1 o2 (strV a') (strV b') m.w (by simp [strV]) (by simp [strV]), Result.andThen_ok]
    exact binA_str h m st.next m.w
  · rename_i cs ds
    obtain ⟨ys, rfl, h1, _⟩ := ha
    obtain ⟨zs, rfl, h2, _⟩ := hb
    split at h
    · obtain ⟨q, h3, h4⟩ := h
      obtain ⟨h5, h6⟩ := h3 m st.next ys zs m.w .eql o1 o2 h1 h2
      exact ⟨_, _, h4, rfl, by simp only [Sem.run_bind, h5, Result.andThen_ok, binOp, h6]; rfl⟩
    · obtain ⟨q, h3, h4⟩ := h
      obtain ⟨h5, h6⟩ := h3 m st.next ys zs m.w .neq o1 o2 h1 h2
      exact ⟨_, _, h4, rfl, by simp only [Sem.run_bind, h5, Result.andThen_ok, binOp, h6]; rfl⟩
    · exact h.elim
  · split at h
    · exact h.elim
    · rename_i ti hti
      have hok := hT.find hti
      split at h
      · rename_i hk
        have hu := hok.k
        rw [hk] at hu
        split at h
        · rename_i p q h1 h2
          have ha := boolA_sound h1 ha
          have hb := boolA_sound h2 hb
          subst ha; subst hb
          simp only [Sem.run_bind, run_eqGuard_plain op t o1 o2 (.bool p) (.bool q) m.w (by simp) (by simp), Result.andThen_ok]
          split at h
          · exact ⟨_, _, h, rfl, by simp [binOp, run_eql_bool hu]⟩
          · exact ⟨_, _, h, rfl, by simp [binOp, run_eql_bool hu]⟩
          · exact h.elim
        · exact h.elim
      · rename_i e hk
        have hu := hok.k
        rw [hk] at hu
        split at h
        · rename_i hn
          have hb := isNilS_sound hn hb
          subst hb
          split at h
          · obtain ⟨A, n, c, rfl, h1⟩ := nilA_sound hs h ha
            simp only [Sem.run_bind, run_eqGuard_plain .eql t o1 o2 (.slice A n c) (.slice none 0 0) m.w (by simp) (by simp), Result.andThen_ok]
            exact ⟨_, _, h1, rfl, by simp [binOp, run_eql_nil hu]⟩
          · obtain ⟨A, n, c, rfl, h1⟩ := nilA_sound hs h ha
            simp only [Sem.run_bind, run_eqGuard_plain .neq t o1 o2 (.slice A n c) (.slice none 0 0) m.w (by simp) (by simp), Result.andThen_ok]
            exact ⟨_, _, h1, rfl, by simp [binOp, run_eql_nil hu]⟩
          · exact h.elim
        · exact h.elim
      · exact h.elim
end Go.Proofs.Aw

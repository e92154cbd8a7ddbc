/- A PART OF THE PROOF: an abstract run of the loaded code over value trees, and the functions walked by it. No condition of its own. -/
import Derived.Test.YtanmknmlphkeaaaDoorA5
namespace Go.Proofs.Aw
open Go Go.RowKit

/-! ### cells -/
/-- a value's cells; what isn't known has none -/
def cellsA : LV → Option (List LV)
  | .agg cs => some cs
  | .tup _ => none
  | .any => none
  | .v x => match x.oneCell' with
    | true => some [.v x]
    | false => none
  | x => some [x]

theorem cells_one {y : Value} (h : y.oneCell' = true) : y.cells = #[y] := by
  cases y <;> first | rfl | (simp [Value.oneCell'] at h)

theorem cellsA_sound {m : Me} {N : Nat} {x : LV} {y : Value} {cs : List LV} (h : cellsA x = some cs) (hr : Rep m N x y) : RepL m N cs y.cells.toList ∧ ∀ u ∈ y.cells.toList, u.oneCell' = true := by
  have one : ∀ {x : LV} {y : Value}, Rep m N x y → y.oneCell' = true → RepL m N [x] y.cells.toList ∧ ∀ u ∈ y.cells.toList, u.oneCell' = true := by
    intro x y hr h1
    rw [cells_one h1]
    exact ⟨⟨y, [], rfl, hr, rfl⟩, by simpa using h1⟩
  cases x with
  | any => simp [cellsA] at h
  | tup => simp [cellsA] at h
  | agg cs' =>
    simp only [cellsA, Option.some.injEq] at h
    subst h
    obtain ⟨ys, rfl, h1, h2⟩ := hr
    exact ⟨by simpa [Value.cells] using h1, by simpa [Value.cells] using h2⟩
  | v x =>
    simp only [cellsA] at h
    split at h
    · rename_i h1; injection h with h; subst h
      have : y = x := hr
      subst this
      exact one hr h1
    · cases h
  | bs b => injection h with h; subst h; exact one hr (by rw [show y = .bool b from hr]; rfl)
  | str l => injection h with h; subst h; exact one hr (by rw [show y = strV l from hr]; rfl)
  | sl sz n g => injection h with h; subst h; exact one hr (by obtain ⟨A, cap, rfl, _⟩ := hr; rfl)
  | sp cs' off => injection h with h; subst h; exact one hr (by obtain ⟨b, o, ys, rfl, _⟩ := hr; rfl)
  | lp o off => injection h with h; subst h; exact one hr (by obtain ⟨_, b, _, rfl⟩ := hr; rfl)
  | el o sz i off => injection h with h; subst h; exact one hr (by obtain ⟨_, b, n, c, _, _, rfl⟩ := hr; rfl)
  | ls o n => injection h with h; subst h; exact one hr (by obtain ⟨_, h1, A, c, h2, _⟩ := hr; rw [h1, h2]; rfl)
  | clo fn a b => injection h with h; subst h; exact one hr (by obtain ⟨_, _, rfl, _⟩ := hr; rfl)

/-- a place in memory: its cells from some begin, and how far behind that it is -/
def memA (st : St) (x : LV) (f : List LV → Nat → Prop) : Prop := match x with
  | .lp o off => match lookO o st.objs with
    | some (.box _ cs) => f cs off
    | _ => False
  | .sp cs off => f cs off
  | .el o sz i off => match lookO o st.objs with
    | some (.arr _ sz' n g) => match Nat.beq sz sz' with
      | true => f (g i) off
      | false => False
    | _ => False
  | _ => False

theorem own_block {w : World} {ty : TypeId} {sz n b c n' : Nat} {xs : List Value} (h : w.ownsRow 0 ty sz (.slice (some ⟨b, 0, none⟩) n' c) n xs) : n' = n ∧ ∃ cur, w.heap[b]? = some (.cells cur ty (0, 0)) ∧ n ≤ c ∧ c ≤ maxLen ∧ cur.size = c * sz ∧ cur.toList.take (n * sz) = xs := by
  rcases h.2 with ⟨h1, _⟩ | ⟨g, cap, cur, h1, h2, h3, h4, h5, h6, h7⟩
  · cases h1
  · injection h1 with h8 h9 h10
    injection h8 with h8
    injection h8 with h8
    subst h8; subst h9; subst h10
    exact ⟨rfl, cur, h3, h4, h5, h6, h7⟩

theorem cellsAt_block {w : World} {b : Nat} {ys : List Value} {ty : TypeId} (h : w.heap[b]? = some (.cells ys.toArray ty (0, 0))) (h1 : ∀ u ∈ ys, u.oneCell' = true) : cellsAt w b 0 ys := by
  intro j y hy
  refine ⟨?_, h1 y (List.mem_of_getElem? hy)⟩
  simp [World.cell?, h]
  exact hy

theorem cellsAt_own {w : World} {b : Nat} {cur : Array Value} {ty : TypeId} {sz n i : Nat} {ys xs : List Value} (h : w.heap[b]? = some (.cells cur ty (0, 0))) (hx : cur.toList.take (n * sz) = xs) (h1 : ∀ u ∈ xs, u.oneCell' = true) (hi : i < n) (hy : (xs.drop (i * sz)).take sz = ys) : cellsAt w b (i * sz) ys := by
  intro j y hj
  have e : xs[i * sz + j]? = some y ∧ j < sz := by
    rw [← hy, List.getElem?_take] at hj
    split at hj
    · rename_i hlt; rw [List.getElem?_drop] at hj; exact ⟨hj, hlt⟩
    · cases hj
  obtain ⟨e1, e2⟩ := e
  refine ⟨?_, h1 y (List.mem_of_getElem? e1)⟩
  rw [← hx, List.getElem?_take] at e1
  split at e1
  · simp [World.cell?, h]
    simpa using e1
  · cases e1

theorem memA_sound {st : St} {m : Me} {tm : Array Value} (hs : Sim st m tm) {x : LV} {f : List LV → Nat → Prop} {y : Value} (h : memA st x f) (hr : Rep m st.next x y) :
    ∃ b o cs off ys, f cs off ∧ y = .pointer (some ⟨b, o + off, none⟩) ∧ RepL m st.next cs ys ∧ cellsAt m.w b o ys := by
  cases x with
  | lp o off =>
    simp only [memA] at h
    split at h
    · rename_i ty cs ho
      obtain ⟨_, ⟨b, ys, h2, h3, h4, h5⟩, _⟩ := hs.obj o _ ho
      obtain ⟨_, b', h6, rfl⟩ := hr
      rw [h2] at h6
      injection h6 with h6; injection h6 with h6; injection h6 with h6
      subst h6
      exact ⟨b, 0, cs, off, ys, h, by simp, h4, cellsAt_block h3 h5⟩
    · exact h.elim
  | sp cs off =>
    obtain ⟨b, o, ys, rfl, h1, h2, h3, h4⟩ := hr
    exact ⟨b, o, cs, off, ys, h, rfl, h3.up (Nat.zero_le _) (Nat.zero_le _), h4⟩
  | el o sz i off =>
    simp only [memA] at h
    split at h
    · rename_i ty sz' n g ho
      split at h
      · rename_i he
        have he := Nat.eq_of_beq_eq_true he
        subst he
        obtain ⟨_, ⟨xs, h2, h3, h4⟩, _⟩ := hs.obj o _ ho
        obtain ⟨_, b, n', c, h5, h6, rfl⟩ := hr
        rw [h5] at h2
        obtain ⟨rfl, cur, h7, h8, h9, h10, h11⟩ := own_block h2
        obtain ⟨ys, h12, h13, h14⟩ := h4 i h6
        exact ⟨b, i * sz, g i, off, ys, h, rfl, h12.up (Nat.zero_le _) (Nat.zero_le _), cellsAt_own h7 h11 h3 h6 h14⟩
      · exact h.elim
    · exact h.elim
  | _ => exact h.elim

/-- of a row of cells the value at a place -/
def loadK (ti : TI) (cs : List LV) (off : Nat) (k : LV → Prop) : Prop := match ti.k.agg with
  | true => match Nat.ble (off + ti.size) cs.length with
    | true => k (.agg ((cs.drop off).take ti.size))
    | false => False
  | false => match nth cs off with
    | some x => k x
    | none => False

theorem run_typeInfo {P : Program} {t : TypeId} {i : TypeInfo} (h : P.info? t = some i) (w : World) : (typeInfo t).run P w = .ok i w := by
  simp [typeInfo, h]
theorem run_sizeOf {P : Program} {t : TypeId} {ti : TI} (h : ti.ok P t) (w : World) : (sizeOf t).run P w = .ok ti.size w := by
  obtain ⟨i, z, h1, h2, _⟩ := h.i
  simp [sizeOf, run_typeInfo h1, h2]
theorem run_isAgg {P : Program} {t : TypeId} {ti : TI} (h : ti.ok P t) (w : World) : (isAgg t).run P w = .ok ti.k.agg w := by
  obtain ⟨d, h1, h2⟩ := h.d
  simp only [isAgg, Sem.run_bind, run_underlying h1, Result.andThen_ok]
  rw [← h2]
  cases d <;> rfl

theorem add_at (b o j : Nat) : (⟨b, o, none⟩ : Addr).add j = ⟨b, o + j, none⟩ := by unfold Addr.add; split <;> simp_all

theorem run_loadVar_at {P : Program} {t : TypeId} {ti : TI} (ht : ti.ok P t) {w : World} {b o off : Nat} {ys : List Value} (hc : cellsAt w b o ys) {m : Me} {N : Nat} {cs : List LV} (hr : RepL m N cs ys) {k : LV → Prop} (h : loadK ti cs off k) :
    ∃ x y, k x ∧ Rep m N x y ∧ (loadVar t ⟨b, o + off, none⟩).run P w = .ok y w := by
  unfold loadK at h
  split at h
  · rename_i ha
    split at h
    · rename_i hl
      rw [Nat.ble_eq] at hl
      have hlen := hr.length
      refine ⟨_, .agg ((ys.drop off).take ti.size).toArray, h, ⟨_, rfl, (hr.drop off).take _, fun u hu => ?_⟩, ?_⟩
      · obtain ⟨j, hj⟩ := List.mem_iff_getElem?.1 (List.mem_of_mem_drop (List.mem_of_mem_take hu))
        exact (hc j u hj).2
      · have e : ((ys.drop off).take ti.size).length = ti.size := by simp; omega
        have hl2 := run_loadCells_list (P := P) w ⟨b, o + off, none⟩ ((ys.drop off).take ti.size) (fun j v hv => by
          rw [add_at]
          rw [List.getElem?_take] at hv
          split at hv
          · rw [List.getElem?_drop] at hv
            rw [Nat.add_assoc]
            exact (hc _ v hv).1
          · cases hv)
        rw [e] at hl2
        simp only [loadVar, Sem.run_bind, run_isAgg ht, Result.andThen_ok, ha, if_true, run_sizeOf ht, hl2]
        simp
    · exact h.elim
  · rename_i ha
    split at h
    · rename_i x hx
      rw [nth_eq] at hx
      obtain ⟨y, hy, h1⟩ := hr.get off x hx
      refine ⟨x, y, h, h1, ?_⟩
      simp only [loadVar, Sem.run_bind, run_isAgg ht, Result.andThen_ok, ha, Bool.false_eq_true, if_false, run_load, (hc off y hy).1]
    · exact h.elim

theorem Sem.loadAt {P : Program} {t : TypeId} {w : World} {a : Addr} : (Instr.loadAt t (.pointer (some a))).run P w = (loadVar t a).run P w := by
  simp [Instr.loadAt, Instr.sureAddr]

def writeL (cs : List LV) (off : Nat) (xs : List LV) : List LV := cs.take off ++ (xs ++ cs.drop (off + xs.length))

end Go.Proofs.Aw

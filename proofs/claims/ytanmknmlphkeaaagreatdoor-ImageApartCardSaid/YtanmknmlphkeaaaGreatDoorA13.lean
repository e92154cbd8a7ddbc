/- A PART OF THE PROOF: an abstract run of the loaded code over value trees, and the functions walked by it. No condition of its own. -/
import Derived.Test.YtanmknmlphkeaaaGreatDoorGA10s
import Derived.Laws.MakeOwn
namespace Go.Proofs.Aw
open Go Go.RowKit

/-- a new row -/
theorem Ok.newRow {org : Me} {st : St} {m : Me} {tm : Array Value} (h : Ok org st m tm) (ty sz n c : Nat) (g : Nat → List LV) (cur : Array Value) (hnc : n ≤ c) (hc : c ≤ maxLen) (hs : cur.size = c * sz) (h1 : ∀ u ∈ cur.toList, u.oneCell' = true)
    (hg : ∀ i, i < n → ∃ ys, RepL m 0 (g i) ys ∧ ys.length = sz ∧ (cur.toList.drop (i * sz)).take sz = ys) :
    ∃ m', m'.w = m.w.alloc (.cells cur ty) ∧ Ok org (st.new (.arr ty sz n g)) m' tm ∧ Rep m' (st.next + 1) (.ls st.next n) (.slice (some ⟨m.w.heap.size, 0, none⟩) n c) := by
  have hn := h.sim.n
  have hsz : m.w.heap.size ≤ (m.w.alloc (.cells cur ty)).heap.size := by simp
  have hy : ∀ k, blkOf (.slice (some ⟨m.w.heap.size, 0, none⟩) n c) = some k → k < (m.w.alloc (.cells cur ty)).heap.size := by
    intro k hk
    simp [blkOf] at hk
    simp; omega
  have hf : Fr m (m.grow (m.w.alloc (.cells cur ty)) (.slice (some ⟨m.w.heap.size, 0, none⟩) n c) hsz hy) := by
    refine ⟨rfl, rfl, rfl, hsz, fun k hk _ => alloc_old _ _ k hk, fun k hk => ?_, fun k hk => ?_, fun k hk _ => .inl hk, fun o ho => by simp [Me.grow, setB]; omega, Nat.le_succ _⟩
    all_goals
      rcases hk with hk | hk
      · exact .inl hk
      · right
        simp [blkOf] at hk
        omega
  have hns : n * sz ≤ cur.toList.length := by
    rw [Array.length_toList, hs]
    exact Nat.mul_le_mul_right sz hnc
  have hgr := h.grow (m.w.alloc (.cells cur ty)) (.slice (some ⟨m.w.heap.size, 0, none⟩) n c) (.arr ty sz n g) none st.objs (sameSys_alloc _ _) hsz hy (fun k hk _ => alloc_old _ _ k hk) (by simp) (fun k ob hk => ⟨hk, by simp⟩)
    (fun k hk => by simp [blkOf] at hk; left; omega)
    ⟨cur.toList.take (n * sz), ⟨by rw [List.length_take]; omega, .inr ⟨m.w.heap.size, c, cur, rfl, Nat.zero_le _, alloc_new _ _, hnc, hc, hs, rfl⟩⟩, fun u hu => h1 u (List.mem_of_mem_take hu), fun i hi => by
      obtain ⟨ys, h2, h3, h4⟩ := hg i hi
      refine ⟨ys, RepL.fr hf 0 0 (Nat.zero_le _) (Nat.le_refl _) _ _ h2, h3, ?_⟩
      rw [← h4]
      have hle : i * sz + sz ≤ n * sz := by
        have := Nat.mul_le_mul_right sz (show i + 1 ≤ n by omega)
        rw [Nat.add_mul] at this; omega
      rw [List.drop_take, List.take_take]
      congr 1
      omega⟩
  exact ⟨_, rfl, hgr.1, Nat.lt_succ_self _, hgr.2.2.symm, _, c, hgr.2.2, .inr ⟨_, rfl⟩⟩

def arrFs (e sz : Nat) : Nat → Nat → List (Nat × TypeId)
  | _, 0 => []
  | i, n + 1 => (i * sz, e) :: arrFs e sz (i + 1) n
theorem arrFs_get (e sz : Nat) : ∀ (n i j : Nat) (p : Nat × TypeId), nth (arrFs e sz i n) j = some p → p = ((i + j) * sz, e) ∧ j < n
  | 0, i, j, p, h => by simp [arrFs, nth] at h
  | n + 1, i, 0, p, h => by simp [arrFs, nth] at h; exact ⟨by rw [← h]; simp, by omega⟩
  | n + 1, i, j + 1, p, h => by
    simp only [arrFs, nth] at h
    obtain ⟨h1, h2⟩ := arrFs_get e sz n (i + 1) j p h
    exact ⟨by rw [h1]; congr 2; omega, by omega⟩

def anys : Nat → List LV
  | 0 => []
  | n + 1 => .any :: anys n
theorem anys_rep {m : Me} {N : Nat} : ∀ (n : Nat) (ys : List Value), ys.length = n → RepL m N (anys n) ys
  | 0, ys, h => List.eq_nil_of_length_eq_zero h
  | n + 1, [], h => by simp at h
  | n + 1, y :: ys, h => ⟨y, ys, rfl, trivial, anys_rep n ys (by simpa using h)⟩

def buildSliceA (T : Tab) (st : St) (t : TypeId) (len : Nat) (parts : List (Nat × Operand)) (k : LV → St → Prop) : Prop := match T.find t with
  | none => False
  | some ti => match ti.k with
    | .slice e => match T.find e with
      | none => False
      | some te => match Nat.ble (len * te.size) 16777216 && Nat.blt 0 te.size with
        | false => False
        | true => match fillA T (arrFs e te.size 0 len) st (anys (len * te.size)) parts with
          | none => False
          | some cs => match underL 0 cs && Nat.beq cs.length (len * te.size) with
            | false => False
            | true => k (.ls st.next len) (st.new (.arr e te.size len (fun i => (cs.drop (i * te.size)).take te.size)))
    | _ => False

theorem zeros_one {P : Program} {t : TypeId} {ti : TI} (h : ti.ok P t) {i : TypeInfo} {z : Value} (hi : P.info? t = some i) (hz : i.zero = some z) (n : Nat) (hn : 0 < n → 0 < ti.size) : ∀ u ∈ (madeCells z.cells n).toList, u.oneCell' = true := by
  obtain ⟨i', z', h1, h2, h3, h4, h5, h6, h7⟩ := h.i
  rw [hi] at h1
  injection h1 with h1
  subst h1
  rw [hz] at h4
  injection h4 with h4
  subst h4
  intro u hu
  simp only [madeCells, Array.toList_map, List.mem_map] at hu
  obtain ⟨j, hj, rfl⟩ := hu
  simp at hj
  have hpos := hn (by omega)
  have hlt : j % z.cells.size < z.cells.size := Nat.mod_lt _ (by omega)
  rw [getElem!_pos z.cells (j % z.cells.size) hlt]
  exact List.all_eq_true.1 h6 _ (by simp)

theorem buildSliceA_sound {P : Program} {T : Tab} (hT : T.Ok P) {org : Me} {st : St} {m : Me} {tm : Array Value} {ds : List Deferred} (h : Ok org st m tm) {t len : Nat} {parts : List (Nat × Operand)} {k : LV → St → Prop}
    (hk : buildSliceA T st t len parts k) (ho : ∀ p ∈ parts, okO tm.size p.2 = true) :
    ∃ r v st' m', (Instr.buildSlice t len (parts.map fun p => (p.1, Act.eval ⟨tm, ds⟩ p.2)).toArray).run P m.w = .ok v m'.w ∧ k r st' ∧ Ok org st' m' tm ∧ Rep m' st'.next r v := by
  unfold buildSliceA at hk
  split at hk
  · exact hk.elim
  rename_i ti hti
  have hok := (hT.find hti).k
  split at hk
  rotate_left
  · exact hk.elim
  rename_i e hke
  rw [hke] at hok
  split at hk
  · exact hk.elim
  rename_i te hte
  have hoe := hT.find hte
  split at hk
  · exact hk.elim
  rename_i hle
  simp only [Bool.and_eq_true] at hle
  have h0 : 0 < te.size := by simpa [Nat.blt_eq] using hle.2
  have hle := Nat.le_of_ble_eq_true hle.1
  split at hk
  · exact hk.elim
  rename_i cs hcs
  split at hk
  · exact hk.elim
  rename_i hcond
  simp only [Bool.and_eq_true] at hcond
  have hlen := Nat.eq_of_beq_eq_true hcond.2
  obtain ⟨i, z, h2, h3, h4, h5, h6, h7, h8⟩ := hoe.i
  let init : Array Value := madeCells z.cells (len * te.size)
  have hini : init.toList.length = len * te.size := by simp [init, madeCells]
  have hz1 : ∀ u ∈ init.toList, u.oneCell' = true := zeros_one hoe h2 h5 _ (fun hp => Nat.pos_of_mul_pos_left hp)
  obtain ⟨ys, h9, h10, h11⟩ := fillA_sound (P := P) hT (ds := ds) h.sim (fun i => some (i * te.size, te.size)) (fun i p ti' hp hti' => by
      obtain ⟨h1, _⟩ := arrFs_get e te.size len 0 i p hp
      subst h1
      simp only [Nat.zero_add]
      have : ti' = te := by
        have h12 : T.find e = some ti' := hti'
        rw [hte] at h12
        exact (Option.some.inj h12).symm
      rw [this]) parts (anys (len * te.size)) cs init.toList hcs (anys_rep _ _ hini) hz1 ho
  have hylen : ys.length = len * te.size := by rw [h10.length, hlen]
  obtain ⟨m', h12, h13, h14⟩ := h.newRow e te.size len len (fun i => (cs.drop (i * te.size)).take te.size) ys.toArray (Nat.le_refl _) (by
      unfold maxLen
      have := Nat.le_mul_of_pos_right len h0
      omega) (by simpa using hylen) (by simpa using h11) (fun i hi => by
      have h15 : RepL m 0 cs ys := RepL.down cs ys hcond.1 h10
      refine ⟨_, (h15.drop (i * te.size)).take te.size, ?_, rfl⟩
      have hle : i * te.size + te.size ≤ len * te.size := by
        have := Nat.mul_le_mul_right te.size (show i + 1 ≤ len by omega)
        rw [Nat.add_mul] at this; omega
      rw [List.length_take, List.length_drop]
      omega)
  refine ⟨_, _, _, m', ?_, hk, h13, h14⟩
  have hng : ¬ (len * te.size > 2 ^ 24) := by omega
  have h9' : Instr.fill (fun i => some (i * te.size, te.size)) init (parts.map fun p => (p.1, Act.eval ⟨tm, ds⟩ p.2)) = some ys.toArray := h9
  rw [h12]
  simp only [Instr.buildSlice, Sem.run_bind, run_underlying hok, Result.andThen_ok, run_sizeOf hoe, hng, if_false]
  by_cases h16 : len * te.size = 0
  · have hi2 : init = #[] := by simp [init, madeCells, h16]
    rw [hi2] at h9'
    simp only [h16, if_true, Sem.run_bind, Sem.run_pure, Result.andThen_ok, show Array.range 0 = #[] from rfl, Array.map_empty, h9', newRow]
    rfl
  · have hi2 : (Array.range (len * te.size)).map (fun x => z.cells[x % z.cells.size]!) = init := rfl
    simp only [if_neg h16, Sem.run_bind, zeroValue, run_typeInfo h2, h5, Sem.run_pure, Result.andThen_ok, hi2, h9', newRow]
    rfl

def makeSliceA (T : Tab) (st : St) (t : TypeId) (l c : LV) (k : LV → St → Prop) : Prop := match T.find t with
  | none => False
  | some ti => match ti.k with
    | .slice e => match T.find e with
      | none => False
      | some te => match Nat.blt 0 te.size with
        | false => False
        | true => match l, c with
          | .v (.int _ a), .v (.int _ b) => (0 ≤ a ∧ a ≤ b ∧ (te.bytes : Int) * b ≤ 281474976710656 ∧ b ≤ 9223372036854775807) ∧ (k (.ls st.next a.toNat) (st.new (.arr e te.size a.toNat (fun _ => te.zero))) ∨ k (.sl te.size a.toNat (fun _ => te.zero)) st)
          | _, _ => False
    | _ => False

theorem zero_rep {P : Program} {t : TypeId} {ti : TI} (h : ti.ok P t) {i : TypeInfo} {z : Value} (hi : P.info? t = some i) (hz : i.zero = some z) (m : Me) (N : Nat) : RepL m N ti.zero z.cells.toList ∧ z.cells.size = ti.size ∧ (∀ u ∈ z.cells.toList, u.oneCell' = true) ∧ i.size = ti.size ∧ i.bytes = ti.bytes := by
  obtain ⟨i', z', h1, h2, h3, h4, h5, h6, h7⟩ := h.i
  rw [hi] at h1
  injection h1 with h1
  subst h1
  rw [hz] at h4
  injection h4 with h4
  subst h4
  refine ⟨?_, h7, List.all_eq_true.1 h6, h2, h3⟩
  rw [← h5]
  refine RepL.mk (by simp) fun i x y hx hy => ?_
  simp only [List.getElem?_map, hy, Option.map_some, Option.some.injEq] at hx
  subst hx
  exact Rep.ofConst m N y

theorem makeSliceA_sound {P : Program} {T : Tab} (hT : T.Ok P) {org : Me} {st : St} {m : Me} {tm : Array Value} (h : Ok org st m tm) {t : TypeId} {l c : LV} {a b : Value} {k : LV → St → Prop}
    (hk : makeSliceA T st t l c k) (ha : Rep m st.next l a) (hb : Rep m st.next c b) :
    ∃ r v st' m', (Instr.makeSlice t a b).run P m.w = .ok v m'.w ∧ k r st' ∧ Ok org st' m' tm ∧ Rep m' st'.next r v := by
  unfold makeSliceA at hk
  split at hk
  · exact hk.elim
  rename_i ti hti
  have hok := (hT.find hti).k
  split at hk
  rotate_left
  · exact hk.elim
  rename_i e hke
  rw [hke] at hok
  split at hk
  · exact hk.elim
  rename_i te hte
  have hoe := hT.find hte
  split at hk
  · exact hk.elim
  rename_i h0
  have h0 : 0 < te.size := by simpa [Nat.blt_eq] using h0
  split at hk
  rotate_left
  · exact hk.elim
  rename_i k1 x k2 y
  have ha : a = .int k1 x := ha
  have hb : b = .int k2 y := hb
  subst ha; subst hb
  obtain ⟨⟨g1, g2, g3, g4⟩, hk⟩ := hk
  obtain ⟨i, z, h2, h3, h4, h5, h6, h7, h8⟩ := hoe.i
  have hr := run_make (P := P) m.w t e i z hok h2 h5 k1 k2 x y g1 g2 (by rw [h4]; exact g3) g4
  rw [h3] at hr
  obtain ⟨q1, q2, q3, _, _⟩ := zero_rep hoe h2 h5 m 0
  have hcell : ∀ i, i < x.toNat → ((madeCells z.cells (y.toNat * te.size)).toList.drop (i * te.size)).take te.size = z.cells.toList := fun i hi => by
    have hle : i * te.size + te.size ≤ y.toNat * te.size := by
      have := Nat.mul_le_mul_right te.size (show i + 1 ≤ y.toNat by omega)
      rw [Nat.add_mul] at this; omega
    apply List.ext_getElem?
    intro j
    rw [List.getElem?_take, List.getElem?_drop]
    by_cases hj : j < te.size
    · rw [if_pos hj]
      have hlt : i * te.size + j < y.toNat * te.size := by omega
      simp only [madeCells, Array.toList_map, List.getElem?_map, Array.toList_range, List.getElem?_range hlt, Option.map_some]
      have hm : (i * te.size + j) % z.cells.size = j := by rw [q2, Nat.add_comm, Nat.add_mul_mod_self_right, Nat.mod_eq_of_lt hj]
      rw [hm, getElem!_pos z.cells j (by omega)]
      simp [show j < z.cells.size by omega]
    · rw [if_neg hj]
      symm
      apply List.getElem?_eq_none
      simp; omega
  rcases hk with hk | hk
  · obtain ⟨m', h12, h13, h14⟩ := h.newRow e te.size x.toNat y.toNat (fun _ => te.zero) (madeCells z.cells (y.toNat * te.size)) (by omega) (by unfold maxLen; omega) (size_madeCells _ _) (zeros_one hoe h2 h5 _ fun _ => h0) (fun i hi => ⟨z.cells.toList, q1, by simpa using q2, hcell i hi⟩)
    exact ⟨_, _, _, m', by rw [h12]; exact hr, hk, h13, h14⟩
  · have hsz : m.w.heap.size ≤ (m.w.alloc (.cells (madeCells z.cells (y.toNat * te.size)) e)).heap.size := by simp
    obtain ⟨h13, _⟩ := h.drew _ (sameSys_alloc m.w (.cells (madeCells z.cells (y.toNat * te.size)) e)) hsz (fun k hk => alloc_old _ _ k hk)
    refine ⟨_, _, _, m.on _ hsz, hr, hk, h13, _, _, rfl, by omega, by omega, (fun h => by cases h), fun _ => ⟨m.w.heap.size, 0, rfl, fun hv => by have := m.lt _ hv; omega, by simp [Me.on], fun i hi => ⟨z.cells.toList, (zero_rep hoe h2 h5 _ 0).1, by simpa using q2, ?_⟩⟩⟩
    rw [Nat.zero_add]
    exact cellsAt_own (alloc_new _ _) (List.take_of_length_le (by rw [Array.length_toList, size_madeCells]; exact Nat.le_refl _)) (zeros_one hoe h2 h5 _ fun _ => h0) (show i < y.toNat by omega) (hcell i hi)
end Go.Proofs.Aw

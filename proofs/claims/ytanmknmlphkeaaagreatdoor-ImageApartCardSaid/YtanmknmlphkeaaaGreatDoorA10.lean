/- A PART OF THE PROOF: an abstract run of the loaded code over value trees, and the functions walked by it. No condition of its own. -/
import Derived.Test.YtanmknmlphkeaaaGreatDoorGA7
import Derived.Maps.AppendAt
import Derived.Laws.OwnMore
namespace Go.Proofs.Aw
open Go Go.RowKit

/-! ### append -/
/-- a row that is read, as elements -/
structure RowAt (m : Me) (y : Value) (sz n : Nat) (g : Nat → List LV) (news : List Value) : Prop where
  len : news.length = n * sz
  one : ∀ u ∈ news, u.oneCell' = true
  elems : ∀ i, i < n → ∃ ys, RepL m 0 (g i) ys ∧ ys.length = sz ∧ (news.drop (i * sz)).take sz = ys
  val : (n = 0 ∧ y = .slice none 0 0) ∨ ∃ a c, y = .slice (some a) n c ∧ ∀ j u, news[j]? = some u → m.w.cell? (a.add j) = some u

theorem seg_concat (sz : Nat) (f : Nat → List Value) (hf : ∀ i, (f i).length = sz) : ∀ n, (((List.range n).map f).flatten).length = n * sz ∧ ∀ i, i < n → ((((List.range n).map f).flatten).drop (i * sz)).take sz = f i
  | 0 => by simp
  | n + 1 => by
    obtain ⟨h1, h2⟩ := seg_concat sz f hf n
    rw [List.range_succ, List.map_append, List.flatten_append]
    simp only [List.map_cons, List.map_nil, List.flatten_cons, List.flatten_nil, List.append_nil]
    refine ⟨by simp only [List.length_append, h1, hf, Nat.add_mul, Nat.one_mul], fun i hi => ?_⟩
    by_cases e : i = n
    · subst e
      rw [List.drop_left' h1, List.take_of_length_le (by rw [hf]; exact Nat.le_refl _)]
    · have hle : i * sz + sz ≤ n * sz := by
        have := Nat.mul_le_mul_right sz (show i + 1 ≤ n by omega)
        rw [Nat.add_mul] at this; omega
      rw [List.drop_append_of_le_length (by omega), List.take_append_of_le_length (by rw [List.length_drop]; omega)]
      exact h2 i (by omega)

/-- what a slice has, as elements -/
def rowA (st : St) (x : LV) (K : Nat → Nat → (Nat → List LV) → Prop) : Prop := match x with
  | .sl sz n g => K sz n g
  | .ls o n => match lookO o st.objs with
    | some (.arr _ sz _ g) => K sz n g
    | _ => False
  | _ => False

theorem rowA_sound {st : St} {m : Me} {tm : Array Value} (hs : Sim st m tm) {x : LV} {K : Nat → Nat → (Nat → List LV) → Prop} {y : Value} (h : rowA st x K) (hr : Rep m st.next x y) : ∃ sz n g news, K sz n g ∧ RowAt m y sz n g news := by
  cases x with
  | sl sz n g =>
    obtain ⟨A, cap, rfl, h1, h2, h3, h4⟩ := hr
    rcases Nat.eq_zero_or_pos n with e | e
    · subst e
      refine ⟨sz, 0, g, [], h, by simp, by simp, fun i hi => absurd hi (by omega), ?_⟩
      cases A with
      | none => have := (h3 rfl).2; subst this; exact .inl ⟨rfl, rfl⟩
      | some a => exact .inr ⟨a, cap, rfl, by simp⟩
    · obtain ⟨b, off, rfl, h5, h6, h7⟩ := h4 e
      have h8 : ∀ i, ∃ ys : List Value, i < n → (RepL m 0 (g i) ys ∧ ys.length = sz ∧ cellsAt m.w b (off + i * sz) ys) := fun i => by
        by_cases hi : i < n
        · obtain ⟨ys, hy⟩ := h7 i hi; exact ⟨ys, fun _ => hy⟩
        · exact ⟨[], fun h => absurd h hi⟩
      obtain ⟨f, hf⟩ := Classical.axiomOfChoice h8
      let f' : Nat → List Value := fun i => if i < n then f i else List.replicate sz undef
      have hf' : ∀ i, (f' i).length = sz := fun i => by
        simp only [f']
        split
        · exact (hf i ‹_›).2.1
        · simp
      obtain ⟨h9, h10⟩ := seg_concat sz f' hf' n
      have h11 : ∀ i, i < n → f' i = f i := fun i hi => by simp [f', hi]
      refine ⟨sz, n, g, ((List.range n).map f').flatten, h, h9, fun u hu => ?_, fun i hi => ⟨f' i, by rw [h11 i hi]; exact (hf i hi).1, hf' i, h10 i hi⟩, .inr ⟨_, cap, rfl, fun j u hj => ?_⟩⟩
      · rw [List.mem_flatten] at hu
        obtain ⟨l, hl, hu⟩ := hu
        rw [List.mem_map] at hl
        obtain ⟨i, hi, rfl⟩ := hl
        rw [List.mem_range] at hi
        rw [h11 i hi] at hu
        obtain ⟨j, hj⟩ := List.mem_iff_getElem?.1 hu
        exact ((hf i hi).2.2 j u hj).2
      · have hsz : 0 < sz := by
          rcases Nat.eq_zero_or_pos sz with e2 | e2
          · rw [e2, Nat.mul_zero] at h9
            rw [List.eq_nil_of_length_eq_zero h9] at hj; simp at hj
          · exact e2
        have hjn : j < n * sz := by rw [← h9]; exact (List.getElem?_eq_some_iff.1 hj).1
        have hi : j / sz < n := Nat.div_lt_of_lt_mul (by rw [Nat.mul_comm]; exact hjn)
        have hmod : j % sz < sz := Nat.mod_lt _ hsz
        have e1 : j / sz * sz + j % sz = j := by rw [Nat.mul_comm]; exact Nat.div_add_mod j sz
        have h12 := h10 (j / sz) hi
        have h13 : (f' (j / sz))[j % sz]? = some u := by
          rw [← h12, List.getElem?_take, if_pos hmod, List.getElem?_drop, e1]
          exact hj
        rw [h11 _ hi] at h13
        have h14 := ((hf _ hi).2.2 _ u h13).1
        rw [add_at]
        rw [Nat.add_assoc, e1] at h14
        exact h14
  | ls o n =>
    simp only [rowA] at h
    split at h
    · rename_i ty sz n' g ho
      obtain ⟨h1, rfl, A, c, h2, h3⟩ := hr
      obtain ⟨_, ⟨xs, h4, h5, h6⟩, _⟩ := hs.obj o _ ho
      have hn : n' = n := by
        rw [h2] at h4
        rcases h4.2 with ⟨e1, e2⟩ | ⟨gg, cap, cur, e1, _⟩
        · injection e1 with _ e3 _; omega
        · injection e1 with _ e3 _; exact e3.symm
      subst hn
      refine ⟨sz, n', g, xs, h, h4.1, h5, h6, ?_⟩
      rcases h4.2 with ⟨e1, e2⟩ | ⟨gg, cap, cur, e1, _⟩
      · exact .inl ⟨e2, e1⟩
      · exact .inr ⟨⟨gg, 0, none⟩, cap, e1, fun j u hj => h4.cells (g := gg) (by rw [e1]; rfl) j u hj⟩
    · exact h.elim
  | _ => exact h.elim

/-- append: what the call owns grows -/
def appendA (T : Tab) (t : TypeId) (st : St) (x y : LV) (k : LV → St → Prop) : Prop := match T.find t with
  | none => False
  | some ti => match ti.k with
    | .slice e => match T.find e with
      | none => False
      | some te => match Nat.blt 0 te.size with
        | false => False
        | true => rowA st y fun sz' m g' => match Nat.beq sz' te.size with
          | false => False
          | true => match x with
            | .v (.slice none 0 0) => m * te.bytes ≤ 140737488355328 ∧ m ≤ 9223372036854775807 ∧ k (.ls st.next m) { st with objs := (st.next, .arr e te.size m g') :: st.objs, next := st.next + 1 }
            | .ls o n => match lookO o st.objs with
              | some (.arr e' sz n' g) => match Nat.beq sz te.size && Nat.beq e' e with
                | true => (n + m) * te.bytes ≤ 140737488355328 ∧ n + m ≤ 9223372036854775807 ∧ k (.ls st.next (n + m)) { st with objs := (st.next, .arr e sz (n + m) (fun j => match Nat.blt j n with | true => g j | false => g' (j - n))) :: eraseO o st.objs, next := st.next + 1 }
                | false => False
              | _ => False
            | _ => False
    | _ => False

theorem own_nil0 (w : World) (e : TypeId) (sz : Nat) : w.ownsRow 0 e sz (.slice none 0 0) 0 [] := World.ownsRow_nil w 0 e sz

theorem ownBlock_blk {A : Option Addr} {n c : Nat} : (Value.slice A n c).ownBlock = blkOf (.slice A n c) := by cases A <;> rfl

theorem run_append {P : Program} {t ty e : TypeId} {te : TI} (ht : P.underlying t = some (.slice e)) (he : te.ok P e) (h0 : 0 < te.size) (w : World) (v : Value) (n : Nat) (xs : List Value) (hown : w.ownsRow 0 e te.size v n xs)
    (y : Value) (m : Nat) (news : List Value) (hl : news.length = m * te.size) (h1 : ∀ u ∈ news, u.oneCell' = true) (hy : (m = 0 ∧ y = .slice none 0 0) ∨ ∃ a c, y = .slice (some a) m c ∧ ∀ j u, news[j]? = some u → w.cell? (a.add j) = some u)
    (hb : (n + m) * te.bytes ≤ 140737488355328) (h63 : n + m ≤ 9223372036854775807) :
    ∃ v' w', (Builtin.append_ #[t, t] ty #[v, y]).run P w = .ok v' w' ∧ w'.ownsRow 0 e te.size v' (n + m) (xs ++ news) ∧ w.grownBy w' v.ownBlock ∧ (v'.ownBlock = v.ownBlock ∨ v'.ownBlock = some w.heap.size) := by
  obtain ⟨i, z, h2, h3, h4, h5, h6, h7, h8⟩ := he.i
  rcases hy with ⟨rfl, rfl⟩ | ⟨a, c, rfl, h9⟩
  · have hn : news = [] := List.eq_nil_of_length_eq_zero (by simpa using hl)
    subst hn
    refine ⟨v, w, run_append_owned_none (P := P) w 0 t ty e i te.size ht h2 v n xs hown, by simpa using hown, ⟨rfl, rfl, rfl, Nat.le_refl _, fun _ _ _ => rfl⟩, .inl rfl⟩
  · obtain ⟨v', w', h10, h11, h12, _, h13⟩ := run_append_own_at (P := P) w 0 t ty e i z te.size te.bytes ht h2 h5 h3 h4 h8 h0 v n xs hown a m c news hl h9 h1 (by unfold maxLen; omega) hb (Nat.zero_le _)
    exact ⟨v', w', h10, h11, h12, h13⟩


theorem RowAt.reps {m : Me} {y : Value} {sz n : Nat} {g : Nat → List LV} {news : List Value} (h : RowAt m y sz n g news) : ∀ i, i < n → ∃ ys, RepL m 0 (g i) ys ∧ ys.length = sz ∧ (news.drop (i * sz)).take sz = ys := h.elems

theorem appendA_sound {P : Program} {T : Tab} (hT : T.Ok P) {t ty : TypeId} {org : Me} {st : St} {m : Me} {tm : Array Value} (h : Ok org st m tm) {x y : LV} {a b : Value} {k : LV → St → Prop}
    (hk : appendA T t st x y k) (ha : Rep m st.next x a) (hb : Rep m st.next y b) :
    ∃ r v st' m', (Builtin.append_ #[t, t] ty #[a, b]).run P m.w = .ok v m'.w ∧ k r st' ∧ Ok org st' m' tm ∧ Rep m' st'.next r v := by
  unfold appendA at hk
  split at hk
  · exact hk.elim
  rename_i ti hti
  have hok := hT.find hti
  split at hk
  rotate_left
  · exact hk.elim
  rename_i e hke
  have hu := hok.k
  rw [hke] at hu
  split at hk
  · exact hk.elim
  rename_i te hte
  have hoe := hT.find hte
  split at hk
  · exact hk.elim
  rename_i h0
  have h0 : 0 < te.size := by simpa [Nat.blt_eq] using h0
  obtain ⟨sz', mm, g', news, hk, hrow⟩ := rowA_sound h.sim hk hb
  split at hk
  · exact hk.elim
  rename_i hsz
  have hsz := Nat.eq_of_beq_eq_true hsz
  subst hsz
  have hn := h.sim.n
  split at hk
  · -- a nil slice
    obtain ⟨h1, h2, hk⟩ := hk
    have ha : a = .slice none 0 0 := ha
    subst ha
    obtain ⟨v, w', h3, h4, h5, h6⟩ := run_append (P := P) (ty := ty) hu hoe h0 m.w (.slice none 0 0) 0 [] (own_nil0 _ _ _) b mm news hrow.len hrow.one hrow.val (by simpa using h1) (by simpa using h2)
    simp only [Nat.zero_add, List.nil_append] at h4
    obtain ⟨A, c, hv⟩ : ∃ A c, v = .slice A mm c ∧ lsOk A mm := by
      rcases h4.2 with ⟨e1, e2⟩ | ⟨gg, cap, cur, e1, _⟩
      · exact ⟨none, 0, by rw [e1, e2], .inl ⟨rfl, e2⟩⟩
      · exact ⟨_, cap, e1, .inr ⟨_, rfl⟩⟩
    have hblk : ∀ k, blkOf v = some k → k = m.w.heap.size ∧ k < w'.heap.size := by
      intro k hk1
      rw [hv.1, ← ownBlock_blk, ← hv.1] at hk1
      refine ⟨?_, (h4.lt k hk1).2⟩
      rcases h6 with h6 | h6
      · rw [h6] at hk1; simp [Value.ownBlock] at hk1
      · rw [h6] at hk1; exact (Option.some.inj hk1).symm
    have hg := h.grow w' v (.arr e te.size mm g') none st.objs ⟨h5.os, h5.tape, h5.output⟩ h5.size (fun k hk1 => (hblk k hk1).2) (fun k hk1 _ => h5.block k hk1 (by simp [Value.ownBlock])) (by simp) (fun k ob hk1 => ⟨hk1, by simp⟩)
      (fun k hk1 => .inl (by rw [(hblk k hk1).1]; exact Nat.le_refl _))
    have hf : Fr m (m.grow w' v h5.size fun k hk1 => (hblk k hk1).2) := by
      refine ⟨h5.os, h5.tape, h5.output, h5.size, fun k hk1 _ => h5.block k hk1 (by simp [Value.ownBlock]), fun k hk1 => ?_, fun k hk1 => ?_, fun k hk1 _ => .inl hk1, fun o ho => by simp [Me.grow, setB]; omega, Nat.le_succ _⟩
      all_goals
        rcases hk1 with hk1 | hk1
        · exact .inl hk1
        · exact .inr (by rw [(hblk k hk1).1]; exact Nat.le_refl _)
    have hg := hg ⟨news, h4, hrow.one, fun i hi => by
      obtain ⟨ys, h7, h8, h9⟩ := hrow.elems i hi
      exact ⟨ys, RepL.fr hf 0 0 (Nat.zero_le _) (Nat.le_refl _) _ _ h7, h8, h9⟩⟩
    exact ⟨_, v, _, _, h3, hk, hg.1, Nat.lt_succ_self _, hg.2.2.symm, A, c, hg.2.2.trans hv.1, hv.2⟩
  · -- a slice of the call's own
    rename_i o n _
    split at hk
    rotate_left
    · exact hk.elim
    rename_i e' sz n' g ho
    split at hk
    rotate_left
    · exact hk.elim
    rename_i hcond
    simp only [Bool.and_eq_true] at hcond
    have e1 := Nat.eq_of_beq_eq_true hcond.1
    have e2 := Nat.eq_of_beq_eq_true hcond.2
    subst e1; subst e2
    obtain ⟨h1, h2, hk⟩ := hk
    obtain ⟨h3, rfl, A, c, h4, h5⟩ := ha
    obtain ⟨h6, ⟨xs, h7, h8, h9⟩, h10⟩ := h.sim.obj o _ ho
    have hnn : n' = n := by
      rw [h4] at h7
      rcases h7.2 with ⟨q1, q2⟩ | ⟨gg, cap, cur, q1, _⟩
      · injection q1 with _ q3 _; omega
      · injection q1 with _ q3 _; exact q3.symm
    subst hnn
    obtain ⟨v, w', h11, h12, h13, h14⟩ := run_append (P := P) (ty := ty) hu hoe h0 m.w (m.b o) n' xs h7 b mm news hrow.len hrow.one hrow.val h1 h2
    have hob : (m.b o).ownBlock = blkOf (m.b o) := by rw [h4]; exact ownBlock_blk
    obtain ⟨A', c', hv⟩ : ∃ A' c', v = .slice A' (n' + mm) c' ∧ lsOk A' (n' + mm) := by
      rcases h12.2 with ⟨e1, e2⟩ | ⟨gg, cap, cur, e1, _⟩
      · exact ⟨none, 0, by rw [e1, e2], .inl ⟨rfl, e2⟩⟩
      · exact ⟨_, cap, e1, .inr ⟨_, rfl⟩⟩
    have hblk : ∀ k, blkOf v = some k → (k = m.w.heap.size ∨ blkOf (m.b o) = some k) ∧ k < w'.heap.size := by
      intro k hk1
      rw [hv.1, ← ownBlock_blk, ← hv.1] at hk1
      refine ⟨?_, (h12.lt k hk1).2⟩
      rcases h14 with h14 | h14
      · right; rw [← hob, ← h14]; exact hk1
      · left; rw [h14] at hk1; exact (Option.some.inj hk1).symm
    have hkeep : ∀ k, k < m.w.heap.size → blkOf (m.b o) ≠ some k → w'.heap[k]? = m.w.heap[k]? := fun k hk1 hk2 => h13.block k hk1 (fun e => hk2 (by rw [← hob]; exact e.symm))
    have hf : Fr m (m.grow w' v h13.size fun k hk1 => (hblk k hk1).2) := by
      refine ⟨h13.os, h13.tape, h13.output, h13.size, fun k hk1 hw => hkeep k hk1 fun e => hw (h10 k e).1, fun k hk1 => ?_, fun k hk1 => ?_, fun k hk1 _ => .inl hk1, fun o ho => by simp [Me.grow, setB]; omega, Nat.le_succ _⟩
      · rcases hk1 with hk1 | hk1
        · exact .inl hk1
        · rcases (hblk k hk1).1 with h | h
          · exact .inr (by rw [h]; exact Nat.le_refl _)
          · exact .inl (h10 k h).1
      · rcases hk1 with hk1 | hk1
        · exact .inl hk1
        · rcases (hblk k hk1).1 with h | h
          · exact .inr (by rw [h]; exact Nat.le_refl _)
          · exact .inl (m.sub k (h10 k h).1)
    have hg := h.grow w' v (.arr e' te.size (n' + mm) (fun j => match Nat.blt j n' with | true => g j | false => g' (j - n'))) (some o) (eraseO o st.objs) ⟨h13.os, h13.tape, h13.output⟩ h13.size (fun k hk1 => (hblk k hk1).2)
      (fun k hk1 hk2 => hkeep k hk1 (hk2 o rfl)) (fun o' ho' => by injection ho' with ho'; subst ho'; exact ⟨_, ho⟩)
      (fun k ob hk1 => by
        rw [lookO_erase] at hk1
        split at hk1
        · cases hk1
        · rename_i hne; exact ⟨hk1, fun e => hne (Option.some.inj e).symm⟩)
      (fun k hk1 => by
        rcases (hblk k hk1).1 with h | h
        · exact .inl (by rw [h]; exact Nat.le_refl _)
        · exact .inr ⟨o, rfl, h⟩)
      ⟨xs ++ news, h12, fun u hu => by
        rcases List.mem_append.1 hu with hu | hu
        · exact h8 u hu
        · exact hrow.one u hu, fun i hi => by
        have hxl : xs.length = n' * te.size := h7.1
        by_cases hin : i < n'
        · obtain ⟨ys, q1, q2, q3⟩ := h9 i hin
          have hle : i * te.size + te.size ≤ n' * te.size := by
            have := Nat.mul_le_mul_right te.size (show i + 1 ≤ n' by omega)
            rw [Nat.add_mul] at this; omega
          refine ⟨ys, ?_, q2, ?_⟩
          · have hb : Nat.blt i n' = true := Nat.blt_eq.mpr hin
            simp only [hb]
            exact RepL.fr hf 0 0 (Nat.zero_le _) (Nat.le_refl _) _ _ q1
          · rw [List.drop_append_of_le_length (by omega), List.take_append_of_le_length (by rw [List.length_drop]; omega)]
            exact q3
        · obtain ⟨ys, q1, q2, q3⟩ := hrow.elems (i - n') (by omega)
          refine ⟨ys, ?_, q2, ?_⟩
          · have hb : Nat.blt i n' = false := by
              cases hb : Nat.blt i n' with
              | true => exact absurd (Nat.blt_eq.mp hb) hin
              | false => rfl
            simp only [hb]
            exact RepL.fr hf 0 0 (Nat.zero_le _) (Nat.le_refl _) _ _ q1
          · have e3 : i * te.size = xs.length + (i - n') * te.size := by rw [hxl, ← Nat.add_mul]; congr 1; omega
            rw [e3, List.drop_append]
            simp only [Nat.add_sub_cancel_left]
            rw [List.drop_of_length_le (by omega), List.nil_append]
            exact q3⟩
    exact ⟨_, v, _, _, h11, hk, hg.1, Nat.lt_succ_self _, hg.2.2.symm, A', c', hg.2.2.trans hv.1, hv.2⟩
  · exact hk.elim
end Go.Proofs.Aw

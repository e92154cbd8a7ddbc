/- A PART OF THE PROOF: an abstract run of the loaded code over value trees, and the functions walked by it. No condition of its own. -/
import Derived.Test.YtanmknmlphkeaaaGreatDoorAB
import Derived.Maps.AppendAt
import Derived.Laws.OwnMore
import Derived.Lib.AppendStr
import Derived.Laws.MakeOwn
import Derived.Laws.CopyRow
namespace Go.Proofs.Aw
open Go Go.RowKit

/-! ### append -/
/-- a row that is read, as elements -/
structure RowAt (m : Me) (y : Value) (sz n : Nat) (g : Nat → List LV) (news : List Value) : Prop where
  len : news.length = n * sz
  one : ∀ u ∈ news, u.oneCell' = true
  elems : ∀ i, i < n → ∃ ys, RepL m 0 (g i) ys ∧ ys.length = sz ∧ (news.drop (i * sz)).take sz = ys
  val : (n = 0 ∧ y = .slice none 0 0) ∨ ∃ a c, y = .slice (some a) n c ∧ ∀ j u, news[j]? = some u → m.w.cell? (a.add j) = some u

theorem seg_concat (sz : Nat) (f : Nat → List Value) (hf : ∀ i, (f i).length = sz) : ∀ n, (((List.range n).map f).flatten).length = n * sz ∧ ∀ i, i < n → ((((List.range n).map f).flatten).drop (i * sz)).take sz = f i
  | 0 => by simp
  | n + 1 => by
    obtain ⟨h1, h2⟩ := seg_concat sz f hf n
    rw [List.range_succ, List.map_append, List.flatten_append]
    simp only [List.map_cons, List.map_nil, List.flatten_cons, List.flatten_nil, List.append_nil]
    refine ⟨by simp only [List.length_append, h1, hf, Nat.add_mul, Nat.one_mul], fun i hi => ?_⟩
    by_cases e : i = n
    · subst e
      rw [List.drop_left' h1, List.take_of_length_le (by rw [hf]; exact Nat.le_refl _)]
    · have hle : i * sz + sz ≤ n * sz := by
        have := Nat.mul_le_mul_right sz (show i + 1 ≤ n by omega)
        rw [Nat.add_mul] at this; omega
      rw [List.drop_append_of_le_length (by omega), List.take_append_of_le_length (by rw [List.length_drop]; omega)]
      exact h2 i (by omega)

/-- what a slice has, as elements -/
def rowA (st : St) (x : LV) (K : Nat → Nat → (Nat → List LV) → Prop) : Prop := match x with
  | .sl sz n g => K sz n g
  | .ls o n => match lookO o st.objs with
    | some (.arr _ sz _ g) => K sz n g
    | _ => False
  | _ => False

theorem rowA_sound {st : St} {m : Me} {tm : Array Value} (hs : Sim st m tm) {x : LV} {K : Nat → Nat → (Nat → List LV) → Prop} {y : Value} (h : rowA st x K) (hr : Rep m st.next x y) : ∃ sz n g news, K sz n g ∧ RowAt m y sz n g news := by
  cases x with
  | sl sz n g =>
    obtain ⟨A, cap, rfl, h1, h2, h3, h4⟩ := hr
    rcases Nat.eq_zero_or_pos n with e | e
    · subst e
      refine ⟨sz, 0, g, [], h, by simp, by simp, fun i hi => absurd hi (by omega), ?_⟩
      cases A with
      | none => have := (h3 rfl).2; subst this; exact .inl ⟨rfl, rfl⟩
      | some a => exact .inr ⟨a, cap, rfl, by simp⟩
    · obtain ⟨b, off, rfl, h5, h6, h7⟩ := h4 e
      have h8 : ∀ i, ∃ ys : List Value, i < n → (RepL m 0 (g i) ys ∧ ys.length = sz ∧ cellsAt m.w b (off + i * sz) ys) := fun i => by
        by_cases hi : i < n
        · obtain ⟨ys, hy⟩ := h7 i hi; exact ⟨ys, fun _ => hy⟩
        · exact ⟨[], fun h => absurd h hi⟩
      obtain ⟨f, hf⟩ := Classical.axiomOfChoice h8
      let f' : Nat → List Value := fun i => if i < n then f i else List.replicate sz undef
      have hf' : ∀ i, (f' i).length = sz := fun i => by
        simp only [f']
        split
        · exact (hf i ‹_›).2.1
        · simp
      obtain ⟨h9, h10⟩ := seg_concat sz f' hf' n
      have h11 : ∀ i, i < n → f' i = f i := fun i hi => by simp [f', hi]
      refine ⟨sz, n, g, ((List.range n).map f').flatten, h, h9, fun u hu => ?_, fun i hi => ⟨f' i, by rw [h11 i hi]; exact (hf i hi).1, hf' i, h10 i hi⟩, .inr ⟨_, cap, rfl, fun j u hj => ?_⟩⟩
      · rw [List.mem_flatten] at hu
        obtain ⟨l, hl, hu⟩ := hu
        rw [List.mem_map] at hl
        obtain ⟨i, hi, rfl⟩ := hl
        rw [List.mem_range] at hi
        rw [h11 i hi] at hu
        obtain ⟨j, hj⟩ := List.mem_iff_getElem?.1 hu
        exact ((hf i hi).2.2 j u hj).2
      · have hsz : 0 < sz := by
          rcases Nat.eq_zero_or_pos sz with e2 | e2
          · rw [e2, Nat.mul_zero] at h9
            rw [List.eq_nil_of_length_eq_zero h9] at hj; simp at hj
          · exact e2
        have hjn : j < n * sz := by rw [← h9]; exact (List.getElem?_eq_some_iff.1 hj).1
        have hi : j / sz < n := Nat.div_lt_of_lt_mul (by rw [Nat.mul_comm]; exact hjn)
        have hmod : j % sz < sz := Nat.mod_lt _ hsz
        have e1 : j / sz * sz + j % sz = j := by rw [Nat.mul_comm]; exact Nat.div_add_mod j sz
        have h12 := h10 (j / sz) hi
        have h13 : (f' (j / sz))[j % sz]? = some u := by
          rw [← h12, List.getElem?_take, if_pos hmod, List.getElem?_drop, e1]
          exact hj
        rw [h11 _ hi] at h13
        have h14 := ((hf _ hi).2.2 _ u h13).1
        rw [add_at]
        rw [Nat.add_assoc, e1] at h14
        exact h14
  | ls o n =>
    simp only [rowA] at h
    split at h
    · rename_i ty sz n' g ho
      obtain ⟨h1, rfl, A, c, h2, h3⟩ := hr
      obtain ⟨_, ⟨xs, h4, h5, h6⟩, _⟩ := hs.obj o _ ho
      have hn : n' = n := by
        rw [h2] at h4
        rcases h4.2 with ⟨e1, e2⟩ | ⟨gg, cap, cur, e1, _⟩
        · injection e1 with _ e3 _; omega
        · injection e1 with _ e3 _; exact e3.symm
      subst hn
      refine ⟨sz, n', g, xs, h, h4.1, h5, h6, ?_⟩
      rcases h4.2 with ⟨e1, e2⟩ | ⟨gg, cap, cur, e1, _⟩
      · exact .inl ⟨e2, e1⟩
      · exact .inr ⟨⟨gg, 0, none⟩, cap, e1, fun j u hj => h4.cells (g := gg) (by rw [e1]; rfl) j u hj⟩
    · exact h.elim
  | _ => exact h.elim

/-- append: what the call owns grows -/
def appendA (T : Tab) (t : TypeId) (st : St) (x y : LV) (k : LV → St → Prop) : Prop := match T.find t with
  | none => False
  | some ti => match ti.k with
    | .slice e => match T.find e with
      | none => False
      | some te => match Nat.blt 0 te.size with
        | false => False
        | true => rowA st y fun sz' m g' => match Nat.beq sz' te.size with
          | false => False
          | true => match x with
            | .v (.slice none 0 0) => m * te.bytes ≤ 140737488355328 ∧ m ≤ 9223372036854775807 ∧ k (.ls st.next m) { st with objs := (st.next, .arr e te.size m g') :: st.objs, next := st.next + 1 }
            | .ls o n => match lookO o st.objs with
              | some (.arr e' sz n' g) => match Nat.beq sz te.size && Nat.beq e' e with
                | true => (n + m) * te.bytes ≤ 140737488355328 ∧ n + m ≤ 9223372036854775807 ∧ k (.ls st.next (n + m)) { st with objs := (st.next, .arr e sz (n + m) (fun j => match Nat.blt j n with | true => g j | false => g' (j - n))) :: eraseO o st.objs, next := st.next + 1 }
                | false => False
              | _ => False
            | _ => False
    | _ => False

theorem own_nil0 (w : World) (e : TypeId) (sz : Nat) : w.ownsRow 0 e sz (.slice none 0 0) 0 [] := World.ownsRow_nil w 0 e sz

theorem ownBlock_blk {A : Option Addr} {n c : Nat} : (Value.slice A n c).ownBlock = blkOf (.slice A n c) := by cases A <;> rfl

theorem run_append {P : Program} {t ty e : TypeId} {te : TI} (ht : P.underlying t = some (.slice e)) (he : te.ok P e) (h0 : 0 < te.size) (w : World) (v : Value) (n : Nat) (xs : List Value) (hown : w.ownsRow 0 e te.size v n xs)
    (y : Value) (m : Nat) (news : List Value) (hl : news.length = m * te.size) (h1 : ∀ u ∈ news, u.oneCell' = true) (hy : (m = 0 ∧ y = .slice none 0 0) ∨ ∃ a c, y = .slice (some a) m c ∧ ∀ j u, news[j]? = some u → w.cell? (a.add j) = some u)
    (hb : (n + m) * te.bytes ≤ 140737488355328) (h63 : n + m ≤ 9223372036854775807) :
    ∃ v' w', (Builtin.append_ #[t, t] ty #[v, y]).run P w = .ok v' w' ∧ w'.ownsRow 0 e te.size v' (n + m) (xs ++ news) ∧ w.grownBy w' v.ownBlock ∧ (v'.ownBlock = v.ownBlock ∨ v'.ownBlock = some w.heap.size) := by
  obtain ⟨i, z, h2, h3, h4, h5, h6, h7, h8⟩ := he.i
  rcases hy with ⟨rfl, rfl⟩ | ⟨a, c, rfl, h9⟩
  · have hn : news = [] := List.eq_nil_of_length_eq_zero (by simpa using hl)
    subst hn
    refine ⟨v, w, run_append_owned_none (P := P) w 0 t ty e i te.size ht h2 v n xs hown, by simpa using hown, ⟨rfl, rfl, rfl, Nat.le_refl _, fun _ _ _ => rfl⟩, .inl rfl⟩
  · obtain ⟨v', w', h10, h11, h12, _, h13⟩ := run_append_own_at (P := P) w 0 t ty e i z te.size te.bytes ht h2 h5 h3 h4 h8 h0 v n xs hown a m c news hl h9 h1 (by unfold maxLen; omega) hb (Nat.zero_le _)
    exact ⟨v', w', h10, h11, h12, h13⟩


theorem RowAt.reps {m : Me} {y : Value} {sz n : Nat} {g : Nat → List LV} {news : List Value} (h : RowAt m y sz n g news) : ∀ i, i < n → ∃ ys, RepL m 0 (g i) ys ∧ ys.length = sz ∧ (news.drop (i * sz)).take sz = ys := h.elems

theorem appendA_sound {P : Program} {T : Tab} (hT : T.Ok P) {t ty : TypeId} {org : Me} {st : St} {m : Me} {tm : Array Value} (h : Ok org st m tm) {x y : LV} {a b : Value} {k : LV → St → Prop}
    (hk : appendA T t st x y k) (ha : Rep m st.next x a) (hb : Rep m st.next y b) :
    ∃ r v st' m', (Builtin.append_ #[t, t] ty #[a, b]).run P m.w = .ok v m'.w ∧ k r st' ∧ Ok org st' m' tm ∧ Rep m' st'.next r v := by
  unfold appendA at hk
  split at hk
  · exact hk.elim
  rename_i ti hti
  have hok := hT.find hti
  split at hk
  rotate_left
  · exact hk.elim
  rename_i e hke
  have hu := hok.k
  rw [hke] at hu
  split at hk
  · exact hk.elim
  rename_i te hte
  have hoe := hT.find hte
  split at hk
  · exact hk.elim
  rename_i h0
  have h0 : 0 < te.size := by simpa [Nat.blt_eq] using h0
  obtain ⟨sz', mm, g', news, hk, hrow⟩ := rowA_sound h.sim hk hb
  split at hk
  · exact hk.elim
  rename_i hsz
  have hsz := Nat.eq_of_beq_eq_true hsz
  subst hsz
  have hn := h.sim.n
  split at hk
  · -- a nil slice
    obtain ⟨h1, h2, hk⟩ := hk
    have ha : a = .slice none 0 0 := ha
    subst ha
    obtain ⟨v, w', h3, h4, h5, h6⟩ := run_append (P := P) (ty := ty) hu hoe h0 m.w (.slice none 0 0) 0 [] (own_nil0 _ _ _) b mm news hrow.len hrow.one hrow.val (by simpa using h1) (by simpa using h2)
    simp only [Nat.zero_add, List.nil_append] at h4
    obtain ⟨A, c, hv⟩ : ∃ A c, v = .slice A mm c ∧ lsOk A mm := by
      rcases h4.2 with ⟨e1, e2⟩ | ⟨gg, cap, cur, e1, _⟩
      · exact ⟨none, 0, by rw [e1, e2], .inl ⟨rfl, e2⟩⟩
      · exact ⟨_, cap, e1, .inr ⟨_, rfl⟩⟩
    have hblk : ∀ k, blkOf v = some k → k = m.w.heap.size ∧ k < w'.heap.size := by
      intro k hk1
      rw [hv.1, ← ownBlock_blk, ← hv.1] at hk1
      refine ⟨?_, (h4.lt k hk1).2⟩
      rcases h6 with h6 | h6
      · rw [h6] at hk1; simp [Value.ownBlock] at hk1
      · rw [h6] at hk1; exact (Option.some.inj hk1).symm
    have hg := h.grow w' v (.arr e te.size mm g') none st.objs ⟨h5.os, h5.tape, h5.output⟩ h5.size (fun k hk1 => (hblk k hk1).2) (fun k hk1 _ => h5.block k hk1 (by simp [Value.ownBlock])) (by simp) (fun k ob hk1 => ⟨hk1, by simp⟩)
      (fun k hk1 => .inl (by rw [(hblk k hk1).1]; exact Nat.le_refl _))
    have hf : Fr m (m.grow w' v h5.size fun k hk1 => (hblk k hk1).2) := by
      refine ⟨h5.os, h5.tape, h5.output, h5.size, fun k hk1 _ => h5.block k hk1 (by simp [Value.ownBlock]), fun k hk1 => ?_, fun k hk1 => ?_, fun k hk1 _ => .inl hk1, fun o ho => by simp [Me.grow, setB]; omega, Nat.le_succ _⟩
      all_goals
        rcases hk1 with hk1 | hk1
        · exact .inl hk1
        · exact .inr (by rw [(hblk k hk1).1]; exact Nat.le_refl _)
    have hg := hg ⟨news, h4, hrow.one, fun i hi => by
      obtain ⟨ys, h7, h8, h9⟩ := hrow.elems i hi
      exact ⟨ys, RepL.fr hf 0 0 (Nat.zero_le _) (Nat.le_refl _) _ _ h7, h8, h9⟩⟩
    exact ⟨_, v, _, _, h3, hk, hg.1, Nat.lt_succ_self _, hg.2.2.symm, A, c, hg.2.2.trans hv.1, hv.2⟩
  · -- a slice of the call's own
    rename_i o n _
    split at hk
    rotate_left
    · exact hk.elim
    rename_i e' sz n' g ho
    split at hk
    rotate_left
    · exact hk.elim
    rename_i hcond
    simp only [Bool.and_eq_true] at hcond
    have e1 := Nat.eq_of_beq_eq_true hcond.1
    have e2 := Nat.eq_of_beq_eq_true hcond.2
    subst e1; subst e2
    obtain ⟨h1, h2, hk⟩ := hk
    obtain ⟨h3, rfl, A, c, h4, h5⟩ := ha
    obtain ⟨h6, ⟨xs, h7, h8, h9⟩, h10⟩ := h.sim.obj o _ ho
    have hnn : n' = n := by
      rw [h4] at h7
      rcases h7.2 with ⟨q1, q2⟩ | ⟨gg, cap, cur, q1, _⟩
      · injection q1 with _ q3 _; omega
      · injection q1 with _ q3 _; exact q3.symm
    subst hnn
    obtain ⟨v, w', h11, h12, h13, h14⟩ := run_append (P := P) (ty := ty) hu hoe h0 m.w (m.b o) n' xs h7 b mm news hrow.len hrow.one hrow.val h1 h2
    have hob : (m.b o).ownBlock = blkOf (m.b o) := by rw [h4]; exact ownBlock_blk
    obtain ⟨A', c', hv⟩ : ∃ A' c', v = .slice A' (n' + mm) c' ∧ lsOk A' (n' + mm) := by
      rcases h12.2 with ⟨e1, e2⟩ | ⟨gg, cap, cur, e1, _⟩
      · exact ⟨none, 0, by rw [e1, e2], .inl ⟨rfl, e2⟩⟩
      · exact ⟨_, cap, e1, .inr ⟨_, rfl⟩⟩
    have hblk : ∀ k, blkOf v = some k → (k = m.w.heap.size ∨ blkOf (m.b o) = some k) ∧ k < w'.heap.size := by
      intro k hk1
      rw [hv.1, ← ownBlock_blk, ← hv.1] at hk1
      refine ⟨?_, (h12.lt k hk1).2⟩
      rcases h14 with h14 | h14
      · right; rw [← hob, ← h14]; exact hk1
      · left; rw [h14] at hk1; exact (Option.some.inj hk1).symm
    have hkeep : ∀ k, k < m.w.heap.size → blkOf (m.b o) ≠ some k → w'.heap[k]? = m.w.heap[k]? := fun k hk1 hk2 => h13.block k hk1 (fun e => hk2 (by rw [← hob]; exact e.symm))
    have hf : Fr m (m.grow w' v h13.size fun k hk1 => (hblk k hk1).2) := by
      refine ⟨h13.os, h13.tape, h13.output, h13.size, fun k hk1 hw => hkeep k hk1 fun e => hw (h10 k e).1, fun k hk1 => ?_, fun k hk1 => ?_, fun k hk1 _ => .inl hk1, fun o ho => by simp [Me.grow, setB]; omega, Nat.le_succ _⟩
      · rcases hk1 with hk1 | hk1
        · exact .inl hk1
        · rcases (hblk k hk1).1 with h | h
          · exact .inr (by rw [h]; exact Nat.le_refl _)
          · exact .inl (h10 k h).1
      · rcases hk1 with hk1 | hk1
        · exact .inl hk1
        · rcases (hblk k hk1).1 with h | h
          · exact .inr (by rw [h]; exact Nat.le_refl _)
          · exact .inl (m.sub k (h10 k h).1)
    have hg := h.grow w' v (.arr e' te.size (n' + mm) (fun j => match Nat.blt j n' with | true => g j | false => g' (j - n'))) (some o) (eraseO o st.objs) ⟨h13.os, h13.tape, h13.output⟩ h13.size (fun k hk1 => (hblk k hk1).2)
      (fun k hk1 hk2 => hkeep k hk1 (hk2 o rfl)) (fun o' ho' => by injection ho' with ho'; subst ho'; exact ⟨_, ho⟩)
      (fun k ob hk1 => by
        rw [lookO_erase] at hk1
        split at hk1
        · cases hk1
        · rename_i hne; exact ⟨hk1, fun e => hne (Option.some.inj e).symm⟩)
      (fun k hk1 => by
        rcases (hblk k hk1).1 with h | h
        · exact .inl (by rw [h]; exact Nat.le_refl _)
        · exact .inr ⟨o, rfl, h⟩)
      ⟨xs ++ news, h12, fun u hu => by
        rcases List.mem_append.1 hu with hu | hu
        · exact h8 u hu
        · exact hrow.one u hu, fun i hi => by
        have hxl : xs.length = n' * te.size := h7.1
        by_cases hin : i < n'
        · obtain ⟨ys, q1, q2, q3⟩ := h9 i hin
          have hle : i * te.size + te.size ≤ n' * te.size := by
            have := Nat.mul_le_mul_right te.size (show i + 1 ≤ n' by omega)
            rw [Nat.add_mul] at this; omega
          refine ⟨ys, ?_, q2, ?_⟩
          · have hb : Nat.blt i n' = true := Nat.blt_eq.mpr hin
            simp only [hb]
            exact RepL.fr hf 0 0 (Nat.zero_le _) (Nat.le_refl _) _ _ q1
          · rw [List.drop_append_of_le_length (by omega), List.take_append_of_le_length (by rw [List.length_drop]; omega)]
            exact q3
        · obtain ⟨ys, q1, q2, q3⟩ := hrow.elems (i - n') (by omega)
          refine ⟨ys, ?_, q2, ?_⟩
          · have hb : Nat.blt i n' = false := by
              cases hb : Nat.blt i n' with
              | true => exact absurd (Nat.blt_eq.mp hb) hin
              | false => rfl
            simp only [hb]
            exact RepL.fr hf 0 0 (Nat.zero_le _) (Nat.le_refl _) _ _ q1
          · have e3 : i * te.size = xs.length + (i - n') * te.size := by rw [hxl, ← Nat.add_mul]; congr 1; omega
            rw [e3, List.drop_append]
            simp only [Nat.add_sub_cancel_left]
            rw [List.drop_of_length_le (by omega), List.nil_append]
            exact q3⟩
    exact ⟨_, v, _, _, h11, hk, hg.1, Nat.lt_succ_self _, hg.2.2.symm, A', c', hg.2.2.trans hv.1, hv.2⟩
  · exact hk.elim
end Go.Proofs.Aw
namespace Go.Proofs.Aw
open Go Go.RowKit

/-! ### a text's bytes behind a slice of the call's own -/
def bytesG (l : List UInt8) (j : Nat) : List LV := [.v (.int .u8 ((l.getD j 0).toNat : Int))]
def isU8z : List LV → Bool
  | [.v (.int .u8 (.ofNat 0))] => true
  | _ => false

/-- append of a text: what the call owns grows -/
def appendS (T : Tab) (t t' : TypeId) (st : St) (x y : LV) (k : LV → St → Prop) : Prop := match y with
  | .str l => match T.find t with
    | none => False
    | some ti => match ti.k with
      | .slice e => match T.find t' with
        | none => False
        | some ti' => match ti'.k with
          | .str => match T.find e with
            | none => False
            | some te => match isU8z te.zero && (Nat.beq te.size 1 && Nat.beq te.bytes 1) && !te.k.agg with
              | false => False
              | true => match x with
                | .v (.slice none 0 0) => l.length ≤ 140737488355328 ∧ k (.ls st.next l.length) { st with objs := (st.next, .arr e 1 l.length (bytesG l)) :: st.objs, next := st.next + 1 }
                | .ls o n => match lookO o st.objs with
                  | some (.arr e' sz n' g) => match Nat.beq sz 1 && Nat.beq e' e with
                    | true => n + l.length ≤ 140737488355328 ∧ k (.ls st.next (n + l.length)) { st with objs := (st.next, .arr e sz (n + l.length) (fun j => match Nat.blt j n with | true => g j | false => bytesG l (j - n))) :: eraseO o st.objs, next := st.next + 1 }
                    | false => False
                  | _ => False
                | _ => False
          | _ => False
      | _ => False
  | _ => False

theorem strCells_at (l : List UInt8) (i : Nat) (hi : i < l.length) : ((Lib.strCells ⟨l.toArray⟩).drop (i * 1)).take 1 = [Value.int .u8 ((l.getD i 0).toNat : Int)] := by
  simp only [Lib.strCells, Nat.mul_one]
  have h1 : i < (l.map fun b => Value.int .u8 (b.toNat : Int)).length := by simpa using hi
  rw [List.drop_eq_getElem_cons h1]
  simp [List.getElem?_eq_getElem hi]

theorem own_uniq {w : World} {b e sz n : Nat} {v : Value} {xs ys : List Value} (h : w.ownsRow b e sz v n xs) (k : w.ownsRow b e sz v n ys) : xs = ys := by
  have l1 := h.1
  have l2 := k.1
  rcases h.2 with ⟨e1, e2⟩ | ⟨g, cap, cur, e1, _, hg, _, _, _, h1⟩
  · subst e2
    have a1 : xs = [] := List.eq_nil_of_length_eq_zero (by simpa using l1)
    have a2 : ys = [] := List.eq_nil_of_length_eq_zero (by simpa using l2)
    rw [a1, a2]
  · rcases k.2 with ⟨e3, _⟩ | ⟨g', cap', cur', e3, _, hg', _, _, _, h2⟩
    · rw [e1] at e3; cases e3
    · rw [e1] at e3
      injection e3 with e4 _ _
      injection e4 with e4
      injection e4 with e4 _ _
      subst e4
      rw [hg] at hg'
      injection hg' with hg'
      injection hg' with hg' _ _
      rw [← h1, ← h2, hg']

theorem run_append_str {P : Program} {t u ty e : TypeId} {i : TypeInfo} (ht : P.underlying t = some (.slice e)) (hu : P.underlying u = some .string) (hi : P.info? e = some i) (hz : i.zero = some (.int .u8 0))
    (hsize : i.size = 1) (hby : i.bytes = 1) (w : World) (v : Value) (n : Nat) (xs : List Value) (hown : w.ownsRow 0 e 1 v n xs) (s : ByteArray) (hbytes : n + s.size ≤ 140737488355328) :
    ∃ v' w', (Builtin.append_ #[t, u] ty #[v, .string s]).run P w = .ok v' w' ∧ w'.ownsRow 0 e 1 v' (n + s.size) (xs ++ Lib.strCells s) ∧ w.grownBy w' v.ownBlock ∧ (v'.ownBlock = v.ownBlock ∨ v'.ownBlock = some w.heap.size) := by
  obtain ⟨v', w', h1, h2, h3, h4⟩ := Lib.run_append_own_string (P := P) w 0 t u ty e i ht hu hi hz hsize hby v n xs hown s (by unfold maxLen; omega) hbytes (Nat.zero_le _)
  refine ⟨v', w', h1, h2, h3, ?_⟩
  have hxl : xs.length = n := by simpa using hown.1
  have det : ∀ {v2 : Value} {w2 : World}, (Builtin.append_ #[t, u] ty #[v, .string s]).run P w = .ok v2 w2 → v' = v2 := fun hr => by
    have := h1.symm.trans hr
    injection this
  rcases hown.2 with ⟨e1, e2⟩ | ⟨g, cap, cur, e1, _, hg, hnc, hcm, hcs, _⟩
  · subst e1
    by_cases hm : s.size = 0
    · rw [h4.2 ⟨rfl, hm⟩]; exact .inl rfl
    · have hr := run_append_nil_string (P := P) w t u ty e i (.int .u8 0) ht hu hi hz s (by omega) (by omega) (by rw [hby]; omega)
      rw [det hr]; exact .inr rfl
  · subst e1
    by_cases hroom : n + s.size ≤ cap
    · have hcs' : cur.size = cap := by simpa using hcs
      have hr := Lib.run_append_room_string (P := P) w t u ty e i ht hu hi hsize g n cap cur hg s hroom (by omega)
      rw [det hr]; exact .inl rfl
    · have holds : ∀ j u, xs[j]? = some u → w.cell? ((⟨g, 0, none⟩ : Addr).add j) = some u := hown.cells (g := g) rfl
      have hr := Lib.run_append_grow_string (P := P) w t u ty e i (.int .u8 0) ht hu hi hz ⟨g, 0, none⟩ n cap xs (by rw [hsize]; simpa using hxl) holds s (by omega) (by omega) (by rw [hby]; exact growslice_fits (by omega) (by omega))
      rw [det hr]; exact .inr rfl

/-- the own nil slice, grown -/
theorem Ok.grewNil {org : Me} {st : St} {m : Me} {tm : Array Value} (h : Ok org st m tm) {v : Value} {w' : World} {e sz mm : Nat} {g' : Nat → List LV} {news : List Value}
    (h4 : w'.ownsRow 0 e sz v mm news) (h5 : m.w.grownBy w' (Value.slice none 0 0).ownBlock) (h6 : v.ownBlock = (Value.slice none 0 0).ownBlock ∨ v.ownBlock = some m.w.heap.size) (hone : ∀ u ∈ news, u.oneCell' = true)
    (helems : ∀ i, i < mm → ∃ ys, RepL m 0 (g' i) ys ∧ ys.length = sz ∧ (news.drop (i * sz)).take sz = ys) :
    ∃ m', m'.w = w' ∧ Ok org { st with objs := (st.next, .arr e sz mm g') :: st.objs, next := st.next + 1 } m' tm ∧ Rep m' (st.next + 1) (.ls st.next mm) v := by
  have hn := h.sim.n
  obtain ⟨A, c, hv⟩ : ∃ A c, v = .slice A mm c ∧ lsOk A mm := by
    rcases h4.2 with ⟨e1, e2⟩ | ⟨gg, cap, cur, e1, _⟩
    · exact ⟨none, 0, by rw [e1, e2], .inl ⟨rfl, e2⟩⟩
    · exact ⟨_, cap, e1, .inr ⟨_, rfl⟩⟩
  have hblk : ∀ k, blkOf v = some k → k = m.w.heap.size ∧ k < w'.heap.size := by
    intro k hk1
    rw [hv.1, ← ownBlock_blk, ← hv.1] at hk1
    refine ⟨?_, (h4.lt k hk1).2⟩
    rcases h6 with h6 | h6
    · rw [h6] at hk1; simp [Value.ownBlock] at hk1
    · rw [h6] at hk1; exact (Option.some.inj hk1).symm
  have hg := h.grow w' v (.arr e sz mm g') none st.objs ⟨h5.os, h5.tape, h5.output⟩ h5.size (fun k hk1 => (hblk k hk1).2) (fun k hk1 _ => h5.block k hk1 (by simp [Value.ownBlock])) (by simp) (fun k ob hk1 => ⟨hk1, by simp⟩)
    (fun k hk1 => .inl (by rw [(hblk k hk1).1]; exact Nat.le_refl _))
  have hf : Fr m (m.grow w' v h5.size fun k hk1 => (hblk k hk1).2) := by
    refine ⟨h5.os, h5.tape, h5.output, h5.size, fun k hk1 _ => h5.block k hk1 (by simp [Value.ownBlock]), fun k hk1 => ?_, fun k hk1 => ?_, fun k hk1 _ => .inl hk1, fun o ho => by simp [Me.grow, setB]; omega, Nat.le_succ _⟩
    all_goals
      rcases hk1 with hk1 | hk1
      · exact .inl hk1
      · exact .inr (by rw [(hblk k hk1).1]; exact Nat.le_refl _)
  have hg := hg ⟨news, h4, hone, fun i hi => by
    obtain ⟨ys, h7, h8, h9⟩ := helems i hi
    exact ⟨ys, RepL.fr hf 0 0 (Nat.zero_le _) (Nat.le_refl _) _ _ h7, h8, h9⟩⟩
  exact ⟨_, rfl, hg.1, Nat.lt_succ_self _, hg.2.2.symm, A, c, hg.2.2.trans hv.1, hv.2⟩

/-- a slice of the call's own, grown -/
theorem Ok.grewOwn {org : Me} {st : St} {m : Me} {tm : Array Value} (h : Ok org st m tm) {o e sz n mm : Nat} {g g' : Nat → List LV} {v : Value} {w' : World} {news : List Value} (ho : lookO o st.objs = some (.arr e sz n g))
    (hrun : ∀ xs, m.w.ownsRow 0 e sz (m.b o) n xs → w'.ownsRow 0 e sz v (n + mm) (xs ++ news)) (h13 : m.w.grownBy w' (m.b o).ownBlock) (h14 : v.ownBlock = (m.b o).ownBlock ∨ v.ownBlock = some m.w.heap.size) (hone : ∀ u ∈ news, u.oneCell' = true)
    (helems : ∀ i, i < mm → ∃ ys, RepL m 0 (g' i) ys ∧ ys.length = sz ∧ (news.drop (i * sz)).take sz = ys) {A : Option Addr} {c : Nat} (h4 : m.b o = .slice A n c) :
    ∃ m', m'.w = w' ∧ Ok org { st with objs := (st.next, .arr e sz (n + mm) (fun j => match Nat.blt j n with | true => g j | false => g' (j - n))) :: eraseO o st.objs, next := st.next + 1 } m' tm ∧ Rep m' (st.next + 1) (.ls st.next (n + mm)) v := by
  have hn := h.sim.n
  obtain ⟨h6, ⟨xs, h7, h8, h9⟩, h10⟩ := h.sim.obj o _ ho
  have h12 := hrun xs h7
  have hob : (m.b o).ownBlock = blkOf (m.b o) := by rw [h4]; exact ownBlock_blk
  obtain ⟨A', c', hv⟩ : ∃ A' c', v = .slice A' (n + mm) c' ∧ lsOk A' (n + mm) := by
    rcases h12.2 with ⟨e1, e2⟩ | ⟨gg, cap, cur, e1, _⟩
    · exact ⟨none, 0, by rw [e1, e2], .inl ⟨rfl, e2⟩⟩
    · exact ⟨_, cap, e1, .inr ⟨_, rfl⟩⟩
  have hblk : ∀ k, blkOf v = some k → (k = m.w.heap.size ∨ blkOf (m.b o) = some k) ∧ k < w'.heap.size := by
    intro k hk1
    rw [hv.1, ← ownBlock_blk, ← hv.1] at hk1
    refine ⟨?_, (h12.lt k hk1).2⟩
    rcases h14 with h14 | h14
    · right; rw [← hob, ← h14]; exact hk1
    · left; rw [h14] at hk1; exact (Option.some.inj hk1).symm
  have hkeep : ∀ k, k < m.w.heap.size → blkOf (m.b o) ≠ some k → w'.heap[k]? = m.w.heap[k]? := fun k hk1 hk2 => h13.block k hk1 (fun e => hk2 (by rw [← hob]; exact e.symm))
  have hf : Fr m (m.grow w' v h13.size fun k hk1 => (hblk k hk1).2) := by
    refine ⟨h13.os, h13.tape, h13.output, h13.size, fun k hk1 hw => hkeep k hk1 fun e => hw (h10 k e).1, fun k hk1 => ?_, fun k hk1 => ?_, fun k hk1 _ => .inl hk1, fun o ho => by simp [Me.grow, setB]; omega, Nat.le_succ _⟩
    · rcases hk1 with hk1 | hk1
      · exact .inl hk1
      · rcases (hblk k hk1).1 with h | h
        · exact .inr (by rw [h]; exact Nat.le_refl _)
        · exact .inl (h10 k h).1
    · rcases hk1 with hk1 | hk1
      · exact .inl hk1
      · rcases (hblk k hk1).1 with h | h
        · exact .inr (by rw [h]; exact Nat.le_refl _)
        · exact .inl (m.sub k (h10 k h).1)
  have hg := h.grow w' v (.arr e sz (n + mm) (fun j => match Nat.blt j n with | true => g j | false => g' (j - n))) (some o) (eraseO o st.objs) ⟨h13.os, h13.tape, h13.output⟩ h13.size (fun k hk1 => (hblk k hk1).2)
    (fun k hk1 hk2 => hkeep k hk1 (hk2 o rfl)) (fun o' ho' => by injection ho' with ho'; subst ho'; exact ⟨_, ho⟩)
    (fun k ob hk1 => by
      rw [lookO_erase] at hk1
      split at hk1
      · cases hk1
      · rename_i hne; exact ⟨hk1, fun e => hne (Option.some.inj e).symm⟩)
    (fun k hk1 => by
      rcases (hblk k hk1).1 with h | h
      · exact .inl (by rw [h]; exact Nat.le_refl _)
      · exact .inr ⟨o, rfl, h⟩)
    ⟨xs ++ news, h12, fun u hu => by
      rcases List.mem_append.1 hu with hu | hu
      · exact h8 u hu
      · exact hone u hu, fun i hi => by
      have hxl : xs.length = n * sz := h7.1
      by_cases hin : i < n
      · obtain ⟨ys, q1, q2, q3⟩ := h9 i hin
        have hle : i * sz + sz ≤ n * sz := by
          have := Nat.mul_le_mul_right sz (show i + 1 ≤ n by omega)
          rw [Nat.add_mul] at this; omega
        refine ⟨ys, ?_, q2, ?_⟩
        · have hb : Nat.blt i n = true := Nat.blt_eq.mpr hin
          simp only [hb]
          exact RepL.fr hf 0 0 (Nat.zero_le _) (Nat.le_refl _) _ _ q1
        · rw [List.drop_append_of_le_length (by omega), List.take_append_of_le_length (by rw [List.length_drop]; omega)]
          exact q3
      · obtain ⟨ys, q1, q2, q3⟩ := helems (i - n) (by omega)
        refine ⟨ys, ?_, q2, ?_⟩
        · have hb : Nat.blt i n = false := by
            cases hb : Nat.blt i n with
            | true => exact absurd (Nat.blt_eq.mp hb) hin
            | false => rfl
          simp only [hb]
          exact RepL.fr hf 0 0 (Nat.zero_le _) (Nat.le_refl _) _ _ q1
        · have e3 : i * sz = xs.length + (i - n) * sz := by rw [hxl, ← Nat.add_mul]; congr 1; omega
          rw [e3, List.drop_append]
          simp only [Nat.add_sub_cancel_left]
          rw [List.drop_of_length_le (by omega), List.nil_append]
          exact q3⟩
  exact ⟨_, rfl, hg.1, Nat.lt_succ_self _, hg.2.2.symm, A', c', hg.2.2.trans hv.1, hv.2⟩

theorem u8_zero {P : Program} {e : TypeId} {te : TI} (h : te.ok P e) (hz : isU8z te.zero = true) (hs : te.size = 1) (hb : te.bytes = 1) (ha : te.k.agg = false) : ∃ i, P.info? e = some i ∧ i.zero = some (.int .u8 0) ∧ i.size = 1 ∧ i.bytes = 1 := by
  obtain ⟨i, z, h2, h3, h4, h5, h6, h7, h8⟩ := h.i
  refine ⟨i, h2, ?_, h3.trans hs, h4.trans hb⟩
  have ho := h.o i z h2 h5
  rw [ha] at ho
  have hc := cells_one (y := z) ho
  rw [hc] at h6
  rw [h5]
  have h6 : [ofConst z] = te.zero := by simpa using h6
  rw [← h6] at hz
  clear h6 hc ho h8 h7 h5 h4 h3 h2
  have : z = .int .u8 0 := by
    cases z with
    | int k n =>
      cases k <;> cases n with
      | ofNat a => cases a <;> first | rfl | cases hz
      | negSucc a => cases hz
    | _ => cases hz
  rw [this]

theorem appendS_sound {P : Program} {T : Tab} (hT : T.Ok P) {t t' ty : TypeId} {org : Me} {st : St} {m : Me} {tm : Array Value} (h : Ok org st m tm) {x y : LV} {a b : Value} {k : LV → St → Prop}
    (hk : appendS T t t' st x y k) (ha : Rep m st.next x a) (hb : Rep m st.next y b) :
    ∃ r v st' m', (Builtin.append_ #[t, t'] ty #[a, b]).run P m.w = .ok v m'.w ∧ k r st' ∧ Ok org st' m' tm ∧ Rep m' st'.next r v := by
  unfold appendS at hk
  split at hk
  rotate_left
  · exact hk.elim
  rename_i l
  have hb : b = strV l := hb
  subst hb
  split at hk
  · exact hk.elim
  rename_i ti hti
  have hu := (hT.find hti).k
  split at hk
  rotate_left
  · exact hk.elim
  rename_i e hke
  rw [hke] at hu
  split at hk
  · exact hk.elim
  rename_i ti' hti'
  have hu' := (hT.find hti').k
  split at hk
  rotate_left
  · exact hk.elim
  rename_i hke'
  rw [hke'] at hu'
  split at hk
  · exact hk.elim
  rename_i te hte
  split at hk
  · exact hk.elim
  rename_i hcond
  simp only [Bool.and_eq_true, Bool.not_eq_true'] at hcond
  obtain ⟨i, hi1, hi2, hi3, hi4⟩ := u8_zero (hT.find hte) hcond.1.1 (Nat.eq_of_beq_eq_true hcond.1.2.1) (Nat.eq_of_beq_eq_true hcond.1.2.2) hcond.2
  have hone : ∀ u ∈ Lib.strCells ⟨l.toArray⟩, u.oneCell' = true := Lib.strCells_oneCell _
  have helems : ∀ i, i < l.length → ∃ ys, RepL m 0 (bytesG l i) ys ∧ ys.length = 1 ∧ ((Lib.strCells ⟨l.toArray⟩).drop (i * 1)).take 1 = ys := fun i hi => ⟨_, ⟨_, _, rfl, rfl, rfl⟩, rfl, strCells_at l i hi⟩
  split at hk
  · have ha : a = .slice none 0 0 := ha
    subst ha
    obtain ⟨h1, hk⟩ := hk
    obtain ⟨v, w', h3, h4, h5, h6⟩ := run_append_str (P := P) (ty := ty) hu hu' hi1 hi2 hi3 hi4 m.w (.slice none 0 0) 0 [] (own_nil0 _ _ _) ⟨l.toArray⟩ (by simp only [strV_size]; omega)
    simp only [Nat.zero_add, List.nil_append, strV_size] at h4
    obtain ⟨m', rfl, h7, h8⟩ := h.grewNil h4 h5 h6 hone helems
    exact ⟨_, v, _, m', h3, hk, h7, h8⟩
  · rename_i o n
    split at hk
    rotate_left
    · exact hk.elim
    rename_i e' sz n' g ho
    split at hk
    rotate_left
    · exact hk.elim
    rename_i hc2
    simp only [Bool.and_eq_true] at hc2
    have e1 := Nat.eq_of_beq_eq_true hc2.1
    have e2 := Nat.eq_of_beq_eq_true hc2.2
    subst e1; subst e2
    obtain ⟨h1, hk⟩ := hk
    obtain ⟨h3, rfl, A, c, h4, h5⟩ := ha
    obtain ⟨h6, ⟨xs, h7, h8, h9⟩, h10⟩ := h.sim.obj o _ ho
    have hnn : n' = n := by
      rw [h4] at h7
      rcases h7.2 with ⟨q1, q2⟩ | ⟨gg, cap, cur, q1, _⟩
      · injection q1 with _ q3 _; omega
      · injection q1 with _ q3 _; exact q3.symm
    subst hnn
    obtain ⟨v, w', h11, h12, h13, h14⟩ := run_append_str (P := P) (ty := ty) hu hu' hi1 hi2 hi3 hi4 m.w (m.b o) n' xs h7 ⟨l.toArray⟩ (by simp only [strV_size]; omega)
    simp only [strV_size] at h12
    obtain ⟨m', rfl, h15, h16⟩ := h.grewOwn ho (v := v) (w' := w') (news := Lib.strCells ⟨l.toArray⟩) (mm := l.length) (g' := bytesG l) (fun xs' hx => by
      have : xs' = xs := own_uniq hx h7
      rw [this]; exact h12) h13 h14 hone helems h4
    exact ⟨_, v, _, m', h11, hk, h15, h16⟩
  · exact hk.elim
end Go.Proofs.Aw
namespace Go.Proofs.Aw
open Go Go.RowKit

/-! ### not, minus; conversions -/
def unA (op : UnOp) (x : LV) (K : LV → Prop) : Prop := match op, x with
  | .not, .v (.bool true) => K (.v (.bool false))
  | .not, .v (.bool false) => K (.v (.bool true))
  | .not, .bs b => K (.bs (!b))
  | .neg, .v (.int k n) => K (.v (.int k (k.wrap (0 - n))))
  | .xor, .v (.int k n) => K (.v (.int k (bitsA .xor k (if k.signed then -1 else k.max) n)))
  | _, _ => False
theorem unA_sound {P : Program} {op : UnOp} {x : LV} {K : LV → Prop} {m : Me} {N : Nat} {y : Value} (h : unA op x K) (hr : Rep m N x y) (w : World) : ∃ r v, K r ∧ Rep m N r v ∧ (Op.unary op y).run P w = .ok v w := by
  unfold unA at h
  split at h
  · have : y = .bool true := hr
    subst this; exact ⟨_, _, h, rfl, rfl⟩
  · have : y = .bool false := hr
    subst this; exact ⟨_, _, h, rfl, rfl⟩
  · rename_i b
    have : y = .bool b := hr
    subst this; exact ⟨_, _, h, rfl, rfl⟩
  · rename_i k n
    have : y = .int k n := hr
    subst this; exact ⟨_, _, h, rfl, by simp [Op.unary, Op.intArith]⟩
  · rename_i k n
    have : y = .int k n := hr
    subst this; exact ⟨_, _, h, rfl, by simp [Op.unary, Op.intBits, bitsA]⟩
  · exact h.elim

/-- a byte of a cell -/
def byteCells (n : Nat) (g : Nat → List LV) (l : List UInt8) : Prop := l.length = n ∧ ∀ i, i < n → g i = [.v (.int .u8 ((l.getD i 0).toNat : Int))]

def convA (T : Tab) (st : St) (src dst : TypeId) (x : LV) (K : LV → Prop) : Prop := match T.find src, T.find dst with
  | some ts, some td => match td.k with
    | .int k => match x with
      | .v (.int _ n) => K (.v (.int k (k.wrap n)))
      | _ => False
    | .str => match x with
      | .str l => K (.str l)
      | .v (.slice none 0 0) => match ts.k with
        | .slice e => match T.find e with
          | some te => match te.k with
            | .int .u8 => K (.str [])
            | _ => False
          | none => False
        | _ => False
      | x => match ts.k with
        | .slice e => match T.find e with
          | some te => match te.k with
            | .int .u8 => rowA st x fun sz n g => ∃ l, byteCells n g l ∧ K (.str l)
            | _ => False
          | none => False
        | _ => False
    | _ => False
  | _, _ => False

theorem run_convert_str {P : Program} {src dst : TypeId} {d : TypeDesc} (hs : P.underlying src = some d) (hd : P.underlying dst = some .string) (s : ByteArray) (w : World) : (convert src dst (.string s)).run P w = .ok (.string s) w := by
  cases d <;> simp [convert, run_underlying hs, run_underlying hd]

theorem TK.ok_some {P : Program} {t : TypeId} {ti : TI} (h : ti.ok P t) : ∃ d, P.underlying t = some d := by
  obtain ⟨d, h1, _⟩ := h.d
  exact ⟨d, h1⟩

theorem run_convert_intk {P : Program} {src dst : TypeId} {d : TypeDesc} {k : IntKind} (hs : P.underlying src = some d) (hd : P.underlying dst = some (.int k)) (k0 : IntKind) (n : Int) (w : World) : (convert src dst (.int k0 n)).run P w = .ok (.int k (k.wrap n)) w := by
  cases d <;> simp [convert, run_underlying hs, run_underlying hd, Conv.intToInt]

theorem byte_news {m : Me} {y : Value} {n : Nat} {g : Nat → List LV} {news : List Value} {sz : Nat} (h : RowAt m y sz n g news) {l : List UInt8} (hl : byteCells n g l) : news = l.map fun b => Value.int .u8 (b.toNat : Int) := by
  have hsz : 0 < n → sz = 1 := fun h0 => by
    obtain ⟨ys, h1, h2, _⟩ := h.elems 0 h0
    rw [hl.2 0 h0] at h1
    obtain ⟨_, r, rfl, _, hr⟩ := h1
    rw [show r = [] from hr] at h2
    exact h2.symm
  apply List.ext_getElem?
  intro j
  by_cases hj : j < n
  · have hs1 := hsz (by omega)
    subst hs1
    obtain ⟨ys, h1, h2, h3⟩ := h.elems j hj
    rw [hl.2 j hj] at h1
    obtain ⟨y, r, rfl, h4, hr⟩ := h1
    have h4 : y = .int .u8 ((l.getD j 0).toNat : Int) := h4
    subst h4
    have hjl : j < l.length := by rw [hl.1]; exact hj
    have h5 := congrArg (fun z : List Value => z[0]?) h3
    simp only [Nat.mul_one, List.getElem?_take, List.getElem?_drop, Nat.add_zero, List.getElem?_cons_zero] at h5
    rw [if_pos (by omega)] at h5
    rw [h5]
    simp [List.getD, hjl]
  · have e1 : news[j]? = none := by
      apply List.getElem?_eq_none
      rw [h.len]
      rcases Nat.eq_zero_or_pos n with h0 | h0
      · subst h0; simp
      · rw [hsz h0]; omega
    rw [e1]
    symm
    apply List.getElem?_eq_none
    rw [List.length_map, hl.1]
    omega

theorem run_bytesToString {P : Program} {src dst e : TypeId} (hs : P.underlying src = some (.slice e)) (he : P.underlying e = some (.int .u8)) (hd : P.underlying dst = some .string) {m : Me} {y : Value} {n : Nat} {g : Nat → List LV} {news : List Value} {sz : Nat} (h : RowAt m y sz n g news) {l : List UInt8} (hl : byteCells n g l) :
    (convert src dst y).run P m.w = .ok (strV l) m.w := by
  have hn := byte_news h hl
  rcases h.val with ⟨h0, rfl⟩ | ⟨a, c, rfl, hc⟩
  · have : l = [] := List.eq_nil_of_length_eq_zero (by rw [hl.1, h0])
    subst this
    simp [convert, run_underlying hs, run_underlying hd, run_underlying he, Conv.bytesToString, strV]
    rfl
  · have hlen : l.length = n := hl.1
    rcases Nat.eq_zero_or_pos n with h0 | h0
    · subst h0
      have : l = [] := List.eq_nil_of_length_eq_zero hlen
      subst this
      simp [convert, run_underlying hs, run_underlying hd, run_underlying he, Conv.bytesToString, strV, loadCells, loadCellsFrom]
      rfl
    · have hsp : a.spot = none := by
        have h1 := hc 0 (.int .u8 ((l.getD 0 0).toNat : Int)) (by rw [hn]; cases l with
          | nil => simp at hlen; omega
          | cons x r => simp)
        have h2 : a.add 0 = a := rfl
        rw [h2] at h1
        unfold World.cell? at h1
        split at h1
        · split at h1
          · cases h1
          · rename_i h3; simpa using h3
        · cases h1
      obtain ⟨b, off, sp⟩ := a
      have hsp : sp = none := hsp
      subst hsp
      have hz := run_convert_bytes_arg (P := P) m.w src e hs he b off n c (l.map fun b => (b.toNat : Int)) (by simp [hlen]) (fun i hi => by
        have h1 := hc i (.int .u8 ((l.getD i 0).toNat : Int)) (by rw [hn]; simp [List.getD, show i < l.length by omega])
        rw [add_at] at h1
        rw [h1]
        simp [List.getD, show i < l.length by omega]) dst hd
      rw [hz]
      have hm : (l.map fun b => (b.toNat : Int)).map (fun n => UInt8.ofNat n.toNat) = l := by
        rw [List.map_map]
        conv => rhs; rw [← List.map_id l]
        apply List.map_congr_left
        intro b _
        simp
      simp only [strOfNums, strV, hm]

theorem convA_sound {P : Program} {T : Tab} (hT : T.Ok P) {st : St} {m : Me} {tm : Array Value} (hs : Sim st m tm) {src dst : TypeId} {x : LV} {K : LV → Prop} {y : Value} (h : convA T st src dst x K) (hr : Rep m st.next x y) :
    ∃ r v, K r ∧ Rep m st.next r v ∧ (convert src dst y).run P m.w = .ok v m.w := by
  unfold convA at h
  split at h
  rotate_left
  · exact h.elim
  rename_i ts td hts htd
  have hos := hT.find hts
  have hod := (hT.find htd).k
  obtain ⟨d, hd⟩ := TK.ok_some hos
  split at h
  · rename_i k hk
    rw [hk] at hod
    split at h
    · rename_i k0 n
      have : y = .int k0 n := hr
      subst this
      exact ⟨_, _, h, rfl, run_convert_intk hd hod k0 n m.w⟩
    · exact h.elim
  · rename_i hk
    rw [hk] at hod
    have bytes : ∀ (x : LV), (match ts.k with
        | .slice e => match T.find e with
          | some te => match te.k with
            | .int .u8 => rowA st x fun sz n g => ∃ l, byteCells n g l ∧ K (.str l)
            | _ => False
          | none => False
        | _ => False) → Rep m st.next x y → ∃ r v, K r ∧ Rep m st.next r v ∧ (convert src dst y).run P m.w = .ok v m.w := by
      intro x h hr
      split at h
      · rename_i e hke
        have hsk := hos.k
        rw [hke] at hsk
        split at h
        · rename_i te hte
          have hek := (hT.find hte).k
          split at h
          · rename_i hkk
            rw [hkk] at hek
            obtain ⟨sz, n, g, news, ⟨l, hl, h2⟩, hrow⟩ := rowA_sound hs h hr
            exact ⟨_, _, h2, rfl, run_bytesToString hsk hek hod hrow hl⟩
          · exact h.elim
        · exact h.elim
      · exact h.elim
    split at h
    · rename_i l
      have : y = strV l := hr
      subst this
      exact ⟨_, _, h, rfl, run_convert_str hd hod _ m.w⟩
    · split at h
      · rename_i e hke
        have hsk := hos.k
        rw [hke] at hsk
        split at h
        · rename_i te hte
          have hek := (hT.find hte).k
          split at h
          · rename_i hkk
            rw [hkk] at hek
            have : y = .slice none 0 0 := hr
            subst this
            refine ⟨_, strV [], h, rfl, ?_⟩
            simp [convert, run_underlying hsk, run_underlying hod, run_underlying hek, Conv.bytesToString, strV]
            rfl
          · exact h.elim
        · exact h.elim
      · exact h.elim
    · exact bytes _ h hr
  · exact h.elim
end Go.Proofs.Aw
namespace Go.Proofs.Aw
open Go Go.RowKit

/-! ### parts of texts and of slices -/
def bndA (st : St) (o : Option Operand) (d : Int) (K : Int → Prop) : Prop := match o with
  | none => K d
  | some x => match evO st x with
    | .v (.int _ z) => K z
    | _ => False

def sliceA (T : Tab) (st : St) (t : TypeId) (x : LV) (lo hi mx : Option Operand) (k : LV → Prop) : Prop := match mx with
  | some _ => False
  | none => match T.find t with
    | none => False
    | some ti => match ti.k with
      | .str => match x with
        | .str l => bndA st lo 0 fun a => bndA st hi (l.length : Int) fun b => (0 ≤ a ∧ a ≤ b ∧ b ≤ (l.length : Int)) ∧ k (.str ((l.take b.toNat).drop a.toNat))
        | _ => False
      | .slice e => match T.find e with
        | none => False
        | some te => match x with
          | .sl sz n g => match Nat.beq sz te.size with
            | true => bndA st lo 0 fun a => bndA st hi (n : Int) fun b => (0 ≤ a ∧ a ≤ b ∧ b ≤ (n : Int)) ∧ k (.sl sz (b.toNat - a.toNat) (fun j => g (a.toNat + j)))
            | false => False
          | _ => False
      | .arr n e => match T.find e with
        | none => False
        | some te => match Nat.beq te.size 1 with
          | false => False
          | true => match x with
            | .lp o off => bndA st lo 0 fun a => bndA st hi (n : Int) fun b => (0 ≤ a ∧ a ≤ b ∧ b ≤ (n : Int) ∧ a < (n : Int)) ∧ k (.as o (off + a.toNat) (b.toNat - a.toNat))
            | _ => False
      | _ => False

theorem bndA_sound {st : St} {m : Me} {tm : Array Value} {ds : List Deferred} (hs : Sim st m tm) {o : Option Operand} {d : Int} {K : Int → Prop} (h : bndA st o d K) (ho : ∀ x, o = some x → okO tm.size x = true) :
    ∃ z, K z ∧ ((o = none ∧ z = d) ∨ ∃ x k, o = some x ∧ Act.eval ⟨tm, ds⟩ x = .int k z) := by
  unfold bndA at h
  split at h
  · exact ⟨d, h, .inl ⟨rfl, rfl⟩⟩
  · rename_i x
    split at h
    · rename_i k z hx
      have := hs.ev (ds := ds) x (ho x rfl)
      rw [hx] at this
      exact ⟨z, h, .inr ⟨x, k, rfl, this⟩⟩
    · exact h.elim

theorem run_bounds {P : Program} (isSlice : Bool) (len cap : Nat) (lo hi : Option Operand) (ev : Operand → Value) (a b : Int) (hlc : len ≤ cap)
    (hl : (lo = none ∧ a = 0) ∨ ∃ x k, lo = some x ∧ ev x = .int k a) (hh : (hi = none ∧ b = (len : Int)) ∨ ∃ x k, hi = some x ∧ ev x = .int k b) (h0 : 0 ≤ a) (h1 : a ≤ b) (h2 : b ≤ (cap : Int)) (w : World) :
    (Instr.sliceBounds isSlice len cap (lo.map ev) (hi.map ev) none).run P w = .ok (a.toNat, b.toNat, cap) w := by
  have hb0 : 0 ≤ b := by omega
  have hab : a ≤ ((b.toNat : Nat) : Int) := by omega
  rcases hl with ⟨rfl, rfl⟩ | ⟨x, k, rfl, hx⟩ <;> rcases hh with ⟨rfl, rfl⟩ | ⟨x', k', rfl, hx'⟩
  · simp [Instr.sliceBounds]
  · simp [Instr.sliceBounds, Instr.sliceBound, asIntOf, hx', hb0, h2]
  · have : a ≤ (len : Int) := h1
    simp [Instr.sliceBounds, Instr.sliceBound, asIntOf, hx, h0, this]
  · have hm : a ≤ max b 0 := by omega
    simp [Instr.sliceBounds, Instr.sliceBound, asIntOf, hx, hx', hb0, h2, h0, hab, hm]

theorem extract_take (l : List UInt8) (a b : Nat) : (⟨l.toArray⟩ : ByteArray).extract a b = ⟨((l.take b).drop a).toArray⟩ := by
  apply ByteArray.ext
  simp only [ByteArray.data_extract, List.extract_toArray]
  rw [List.extract_eq_take_drop, List.drop_take]

theorem sliceA_sound {P : Program} {T : Tab} (hT : T.Ok P) {st : St} {m : Me} {tm : Array Value} {ds : List Deferred} (hs : Sim st m tm) {t : TypeId} {x : LV} {lo hi mx : Option Operand} {k : LV → Prop} {y : Value} (h : sliceA T st t x lo hi mx k)
    (hlo : ∀ x, lo = some x → okO tm.size x = true) (hhi : ∀ x, hi = some x → okO tm.size x = true) (hr : Rep m st.next x y) :
    ∃ r v, k r ∧ Rep m st.next r v ∧ (Instr.sliceAt t y (lo.map (Act.eval ⟨tm, ds⟩)) (hi.map (Act.eval ⟨tm, ds⟩)) (mx.map (Act.eval ⟨tm, ds⟩))).run P m.w = .ok v m.w := by
  unfold sliceA at h
  split at h
  · exact h.elim
  split at h
  · exact h.elim
  rename_i ti hti
  have hok := (hT.find hti).k
  split at h
  · rename_i hk
    rw [hk] at hok
    split at h
    · rename_i l
      have hy : y = strV l := hr
      subst hy
      obtain ⟨a, h, ha⟩ := bndA_sound (ds := ds) hs h hlo
      obtain ⟨b, ⟨⟨h0, h1, h2⟩, h⟩, hb⟩ := bndA_sound (ds := ds) hs h hhi
      refine ⟨_, _, h, rfl, ?_⟩
      have hbd := run_bounds (P := P) false l.length l.length lo hi (Act.eval ⟨tm, ds⟩) a b (Nat.le_refl _) ha hb h0 h1 h2 m.w
      simp only [Instr.sliceAt, Sem.run_bind, run_underlying hok, Result.andThen_ok, Option.map_none, Instr.slice, strV, Option.isSome, Bool.false_eq_true, if_false, strV_size, hbd, Sem.run_pure, extract_take]
    · exact h.elim
  · rename_i e hk
    rw [hk] at hok
    split at h
    · exact h.elim
    rename_i te hte
    have hoe := hT.find hte
    split at h
    rotate_left
    · exact h.elim
    rename_i sz n g
    split at h
    rotate_left
    · exact h.elim
    rename_i hsz
    have hsz := Nat.eq_of_beq_eq_true hsz
    subst hsz
    obtain ⟨A, cap, rfl, hn, hc, hnil, hcell⟩ := hr
    obtain ⟨a, h, ha⟩ := bndA_sound (ds := ds) hs h hlo
    obtain ⟨b, ⟨⟨h0, h1, h2⟩, h⟩, hb⟩ := bndA_sound (ds := ds) hs h hhi
    have hbd := run_bounds (P := P) true n cap lo hi (Act.eval ⟨tm, ds⟩) a b hn ha hb h0 h1 (by omega) m.w
    have q1 : a.toNat ≤ b.toNat := by omega
    have q2 : b.toNat ≤ n := by omega
    clear ha hb h0 h1 h2
    generalize a.toNat = a at *
    generalize b.toNat = b at *
    refine ⟨_, .slice (if cap = a then A else A.map (·.add (a * te.size))) (b - a) (cap - a), h, ?_, ?_⟩
    · refine ⟨_, _, rfl, by omega, by omega, fun hA => ?_, fun h3 => ?_⟩
      · have : A = none := by
          split at hA
          · exact hA
          · simpa using hA
        have := (hnil this).2
        omega
      · obtain ⟨b', off, rfl, h5, h6, h7⟩ := hcell (by omega)
        refine ⟨b', off + a * te.size, ?_, h5, h6, fun i hi => ?_⟩
        · rw [if_neg (by omega)]
          simp [add_at]
        · obtain ⟨ys, h8, h9, h10⟩ := h7 (a + i) (by omega)
          refine ⟨ys, h8, h9, ?_⟩
          have e : off + a * te.size + i * te.size = off + (a + i) * te.size := by rw [Nat.add_mul]; omega
          rw [e]
          exact h10
    · simp only [Instr.sliceAt, Sem.run_bind, run_underlying hok, Result.andThen_ok, Option.map_none, Instr.slice, hbd, Sem.run_pure, run_sizeOf hoe]
  · rename_i nn e hk
    rw [hk] at hok
    split at h
    · exact h.elim
    rename_i te hte
    have hoe := hT.find hte
    split at h
    · exact h.elim
    rename_i hsz
    have hsz := Nat.eq_of_beq_eq_true hsz
    split at h
    rotate_left
    · exact h.elim
    rename_i o off
    obtain ⟨l1, b', l2, rfl⟩ := hr
    obtain ⟨a, h, ha⟩ := bndA_sound (ds := ds) hs h hlo
    obtain ⟨b, ⟨⟨h0, h1, h2, h3⟩, h⟩, hb⟩ := bndA_sound (ds := ds) hs h hhi
    have hbd := run_bounds (P := P) false nn nn lo hi (Act.eval ⟨tm, ds⟩) a b (Nat.le_refl _) ha hb h0 h1 h2 m.w
    refine ⟨_, .slice (some ⟨b', off + a.toNat, none⟩) (b.toNat - a.toNat) (nn - a.toNat), h, ⟨l1, b', _, l2, rfl⟩, ?_⟩
    have hne : ¬ nn = a.toNat := by omega
    simp only [Instr.sliceAt, Sem.run_bind, run_underlying hok, Result.andThen_ok, Option.map_none, Instr.sureAddr, hbd, Sem.run_pure, run_sizeOf hoe, hsz, if_neg hne, Nat.mul_one, add_at]
  · exact h.elim

/-! ### composites -/
def fillA (T : Tab) (fs : List (Nat × TypeId)) (st : St) : List LV → List (Nat × Operand) → Option (List LV)
  | cs, [] => some cs
  | cs, (i, x) :: r => match nth fs i with
    | none => none
    | some (off, t) => match T.find t, cellsA (evO st x) with
      | some ti, some xs => match Nat.beq xs.length ti.size && Nat.ble (off + xs.length) cs.length with
        | true => fillA T fs st (writeL cs off xs) r
        | false => none
      | _, _ => none

theorem foldl_set : ∀ (vs : List Value) (off j0 : Nat) (cs : List Value), off + j0 + vs.length ≤ cs.length →
    ((vs.zipIdx j0).foldl (fun (cs : Array Value) (p : Value × Nat) => cs.setIfInBounds (off + p.2) p.1) cs.toArray) = (wr cs (off + j0) vs).toArray
  | [], off, j0, cs, h => by simp [wr]
  | v :: r, off, j0, cs, h => by
    simp only [List.length_cons] at h
    have ih := foldl_set r off (j0 + 1) (cs.set (off + j0) v) (by simp; omega)
    simp only [List.zipIdx_cons, List.foldl_cons, List.setIfInBounds_toArray]
    rw [ih]
    congr 1
    apply List.ext_getElem?
    intro j
    rw [wr_get (by simp; omega), wr_get (by simp; omega)]
    by_cases h1 : off + j0 = j
    · subst h1
      rw [if_neg (by omega), if_pos (by simp), Nat.sub_self, List.getElem?_set_self (by omega)]
      rfl
    · rw [List.getElem?_set_ne h1]
      by_cases h2 : off + (j0 + 1) ≤ j ∧ j < off + (j0 + 1) + r.length
      · rw [if_pos h2, if_pos (by simp; omega)]
        have : j - (off + j0) = (j - (off + (j0 + 1))) + 1 := by omega
        rw [this]; simp
      · rw [if_neg h2, if_neg (by simp; omega)]

theorem fill_step (place : Nat → Option (Nat × Nat)) (cs : List Value) (i : Nat) (v : Value) (rest : List (Nat × Value)) (off size : Nat) (hp : place i = some (off, size)) (hv : v.cells.size = size) (hl : off + size ≤ cs.length) :
    Instr.fill place cs.toArray ((i, v) :: rest) = Instr.fill place (wr cs off v.cells.toList).toArray rest := by
  have h2 : v.cells.toList.length = size := by simpa using hv
  have := foldl_set v.cells.toList off 0 cs (by omega)
  simp only [Nat.add_zero] at this
  simp only [Instr.fill, hp]
  rw [if_neg (by simp [hv]; omega)]
  congr 1
  rw [← this]
  simp only [← Array.foldl_toList, Array.toList_zipIdx]

theorem fillA_sound {P : Program} {T : Tab} (hT : T.Ok P) {fs : List (Nat × TypeId)} {st : St} {m : Me} {tm : Array Value} {ds : List Deferred} (hs : Sim st m tm) (place : Nat → Option (Nat × Nat))
    (hp : ∀ i p ti, nth fs i = some p → T.find p.2 = some ti → place i = some (p.1, ti.size)) :
    ∀ (parts : List (Nat × Operand)) (cs cs' : List LV) (ys : List Value), fillA T fs st cs parts = some cs' → RepL m st.next cs ys → (∀ u ∈ ys, u.oneCell' = true) → (∀ p ∈ parts, okO tm.size p.2 = true) →
      ∃ ys', Instr.fill place ys.toArray (parts.map fun p => (p.1, Act.eval ⟨tm, ds⟩ p.2)) = some ys'.toArray ∧ RepL m st.next cs' ys' ∧ ∀ u ∈ ys', u.oneCell' = true
  | [], cs, cs', ys, h, hr, h1, _ => by
    simp only [fillA, Option.some.injEq] at h
    subst h
    exact ⟨ys, rfl, hr, h1⟩
  | (i, x) :: r, cs, cs', ys, h, hr, h1, ho => by
    simp only [fillA] at h
    split at h
    · cases h
    rename_i off t hn
    split at h
    rotate_left
    · cases h
    rename_i ti xs hti hx
    split at h
    rotate_left
    · cases h
    rename_i hc
    simp only [Bool.and_eq_true] at hc
    have e1 := Nat.eq_of_beq_eq_true hc.1
    have e2 := Nat.le_of_ble_eq_true hc.2
    have hev := hs.ev (ds := ds) x (ho (i, x) (by simp))
    obtain ⟨h2, h3⟩ := cellsA_sound hx hev
    have h4 := h2.length
    have h5 := hr.length
    have h6 : (Act.eval ⟨tm, ds⟩ x).cells.size = ti.size := by simp at h4; omega
    have h7 : (Act.eval ⟨tm, ds⟩ x).cells.toList.length = ti.size := by simpa using h6
    obtain ⟨ys', h8, h9, h10⟩ := fillA_sound hT hs place hp r (writeL cs off xs) cs' (wr ys off (Act.eval ⟨tm, ds⟩ x).cells.toList) h (by
      have := hr.write h2 off
      exact this) (fun u hu => by
      simp only [wr, List.mem_append] at hu
      rcases hu with (hu | hu) | hu
      · exact h1 u (List.mem_of_mem_take hu)
      · exact h3 u hu
      · exact h1 u (List.mem_of_mem_drop hu)) (fun p hp2 => ho p (by simp [hp2]))
    refine ⟨ys', ?_, h9, h10⟩
    rw [List.map_cons, fill_step place ys i _ _ off ti.size (hp i (off, t) ti hn hti) h6 (by omega)]
    exact h8
end Go.Proofs.Aw
namespace Go.Proofs.Aw
open Go Go.RowKit

/-- a new row -/
theorem Ok.newRow {org : Me} {st : St} {m : Me} {tm : Array Value} (h : Ok org st m tm) (ty sz n c : Nat) (g : Nat → List LV) (cur : Array Value) (hnc : n ≤ c) (hc : c ≤ maxLen) (hs : cur.size = c * sz) (h1 : ∀ u ∈ cur.toList, u.oneCell' = true)
    (hg : ∀ i, i < n → ∃ ys, RepL m 0 (g i) ys ∧ ys.length = sz ∧ (cur.toList.drop (i * sz)).take sz = ys) :
    ∃ m', m'.w = m.w.alloc (.cells cur ty) ∧ Ok org (st.new (.arr ty sz n g)) m' tm ∧ Rep m' (st.next + 1) (.ls st.next n) (.slice (some ⟨m.w.heap.size, 0, none⟩) n c) := by
  have hn := h.sim.n
  have hsz : m.w.heap.size ≤ (m.w.alloc (.cells cur ty)).heap.size := by simp
  have hy : ∀ k, blkOf (.slice (some ⟨m.w.heap.size, 0, none⟩) n c) = some k → k < (m.w.alloc (.cells cur ty)).heap.size := by
    intro k hk
    simp [blkOf] at hk
    simp; omega
  have hf : Fr m (m.grow (m.w.alloc (.cells cur ty)) (.slice (some ⟨m.w.heap.size, 0, none⟩) n c) hsz hy) := by
    refine ⟨rfl, rfl, rfl, hsz, fun k hk _ => alloc_old _ _ k hk, fun k hk => ?_, fun k hk => ?_, fun k hk _ => .inl hk, fun o ho => by simp [Me.grow, setB]; omega, Nat.le_succ _⟩
    all_goals
      rcases hk with hk | hk
      · exact .inl hk
      · right
        simp [blkOf] at hk
        omega
  have hns : n * sz ≤ cur.toList.length := by
    rw [Array.length_toList, hs]
    exact Nat.mul_le_mul_right sz hnc
  have hgr := h.grow (m.w.alloc (.cells cur ty)) (.slice (some ⟨m.w.heap.size, 0, none⟩) n c) (.arr ty sz n g) none st.objs (sameSys_alloc _ _) hsz hy (fun k hk _ => alloc_old _ _ k hk) (by simp) (fun k ob hk => ⟨hk, by simp⟩)
    (fun k hk => by simp [blkOf] at hk; left; omega)
    ⟨cur.toList.take (n * sz), ⟨by rw [List.length_take]; omega, .inr ⟨m.w.heap.size, c, cur, rfl, Nat.zero_le _, alloc_new _ _, hnc, hc, hs, rfl⟩⟩, fun u hu => h1 u (List.mem_of_mem_take hu), fun i hi => by
      obtain ⟨ys, h2, h3, h4⟩ := hg i hi
      refine ⟨ys, RepL.fr hf 0 0 (Nat.zero_le _) (Nat.le_refl _) _ _ h2, h3, ?_⟩
      rw [← h4]
      have hle : i * sz + sz ≤ n * sz := by
        have := Nat.mul_le_mul_right sz (show i + 1 ≤ n by omega)
        rw [Nat.add_mul] at this; omega
      rw [List.drop_take, List.take_take]
      congr 1
      omega⟩
  exact ⟨_, rfl, hgr.1, Nat.lt_succ_self _, hgr.2.2.symm, _, c, hgr.2.2, .inr ⟨_, rfl⟩⟩

def arrFs (e sz : Nat) : Nat → Nat → List (Nat × TypeId)
  | _, 0 => []
  | i, n + 1 => (i * sz, e) :: arrFs e sz (i + 1) n
theorem arrFs_get (e sz : Nat) : ∀ (n i j : Nat) (p : Nat × TypeId), nth (arrFs e sz i n) j = some p → p = ((i + j) * sz, e) ∧ j < n
  | 0, i, j, p, h => by simp [arrFs, nth] at h
  | n + 1, i, 0, p, h => by simp [arrFs, nth] at h; exact ⟨by rw [← h]; simp, by omega⟩
  | n + 1, i, j + 1, p, h => by
    simp only [arrFs, nth] at h
    obtain ⟨h1, h2⟩ := arrFs_get e sz n (i + 1) j p h
    exact ⟨by rw [h1]; congr 2; omega, by omega⟩

def anys : Nat → List LV
  | 0 => []
  | n + 1 => .any :: anys n
theorem anys_rep {m : Me} {N : Nat} : ∀ (n : Nat) (ys : List Value), ys.length = n → RepL m N (anys n) ys
  | 0, ys, h => List.eq_nil_of_length_eq_zero h
  | n + 1, [], h => by simp at h
  | n + 1, y :: ys, h => ⟨y, ys, rfl, trivial, anys_rep n ys (by simpa using h)⟩

def buildSliceA (T : Tab) (st : St) (t : TypeId) (len : Nat) (parts : List (Nat × Operand)) (k : LV → St → Prop) : Prop := match T.find t with
  | none => False
  | some ti => match ti.k with
    | .slice e => match T.find e with
      | none => False
      | some te => match Nat.ble (len * te.size) 16777216 && Nat.blt 0 te.size with
        | false => False
        | true => match fillA T (arrFs e te.size 0 len) st (anys (len * te.size)) parts with
          | none => False
          | some cs => match underL 0 cs && Nat.beq cs.length (len * te.size) with
            | false => False
            | true => k (.ls st.next len) (st.new (.arr e te.size len (fun i => (cs.drop (i * te.size)).take te.size)))
    | _ => False

theorem zeros_one {P : Program} {t : TypeId} {ti : TI} (h : ti.ok P t) {i : TypeInfo} {z : Value} (hi : P.info? t = some i) (hz : i.zero = some z) (n : Nat) (hn : 0 < n → 0 < ti.size) : ∀ u ∈ (madeCells z.cells n).toList, u.oneCell' = true := by
  obtain ⟨i', z', h1, h2, h3, h4, h5, h6, h7⟩ := h.i
  rw [hi] at h1
  injection h1 with h1
  subst h1
  rw [hz] at h4
  injection h4 with h4
  subst h4
  intro u hu
  simp only [madeCells, Array.toList_map, List.mem_map] at hu
  obtain ⟨j, hj, rfl⟩ := hu
  simp at hj
  have hpos := hn (by omega)
  have hlt : j % z.cells.size < z.cells.size := Nat.mod_lt _ (by omega)
  rw [getElem!_pos z.cells (j % z.cells.size) hlt]
  exact List.all_eq_true.1 h6 _ (by simp)

theorem buildSliceA_sound {P : Program} {T : Tab} (hT : T.Ok P) {org : Me} {st : St} {m : Me} {tm : Array Value} {ds : List Deferred} (h : Ok org st m tm) {t len : Nat} {parts : List (Nat × Operand)} {k : LV → St → Prop}
    (hk : buildSliceA T st t len parts k) (ho : ∀ p ∈ parts, okO tm.size p.2 = true) :
    ∃ r v st' m', (Instr.buildSlice t len (parts.map fun p => (p.1, Act.eval ⟨tm, ds⟩ p.2)).toArray).run P m.w = .ok v m'.w ∧ k r st' ∧ Ok org st' m' tm ∧ Rep m' st'.next r v := by
  unfold buildSliceA at hk
  split at hk
  · exact hk.elim
  rename_i ti hti
  have hok := (hT.find hti).k
  split at hk
  rotate_left
  · exact hk.elim
  rename_i e hke
  rw [hke] at hok
  split at hk
  · exact hk.elim
  rename_i te hte
  have hoe := hT.find hte
  split at hk
  · exact hk.elim
  rename_i hle
  simp only [Bool.and_eq_true] at hle
  have h0 : 0 < te.size := by simpa [Nat.blt_eq] using hle.2
  have hle := Nat.le_of_ble_eq_true hle.1
  split at hk
  · exact hk.elim
  rename_i cs hcs
  split at hk
  · exact hk.elim
  rename_i hcond
  simp only [Bool.and_eq_true] at hcond
  have hlen := Nat.eq_of_beq_eq_true hcond.2
  obtain ⟨i, z, h2, h3, h4, h5, h6, h7, h8⟩ := hoe.i
  let init : Array Value := madeCells z.cells (len * te.size)
  have hini : init.toList.length = len * te.size := by simp [init, madeCells]
  have hz1 : ∀ u ∈ init.toList, u.oneCell' = true := zeros_one hoe h2 h5 _ (fun hp => Nat.pos_of_mul_pos_left hp)
  obtain ⟨ys, h9, h10, h11⟩ := fillA_sound (P := P) hT (ds := ds) h.sim (fun i => some (i * te.size, te.size)) (fun i p ti' hp hti' => by
      obtain ⟨h1, _⟩ := arrFs_get e te.size len 0 i p hp
      subst h1
      simp only [Nat.zero_add]
      have : ti' = te := by
        have h12 : T.find e = some ti' := hti'
        rw [hte] at h12
        exact (Option.some.inj h12).symm
      rw [this]) parts (anys (len * te.size)) cs init.toList hcs (anys_rep _ _ hini) hz1 ho
  have hylen : ys.length = len * te.size := by rw [h10.length, hlen]
  obtain ⟨m', h12, h13, h14⟩ := h.newRow e te.size len len (fun i => (cs.drop (i * te.size)).take te.size) ys.toArray (Nat.le_refl _) (by
      unfold maxLen
      have := Nat.le_mul_of_pos_right len h0
      omega) (by simpa using hylen) (by simpa using h11) (fun i hi => by
      have h15 : RepL m 0 cs ys := RepL.down cs ys hcond.1 h10
      refine ⟨_, (h15.drop (i * te.size)).take te.size, ?_, rfl⟩
      have hle : i * te.size + te.size ≤ len * te.size := by
        have := Nat.mul_le_mul_right te.size (show i + 1 ≤ len by omega)
        rw [Nat.add_mul] at this; omega
      rw [List.length_take, List.length_drop]
      omega)
  refine ⟨_, _, _, m', ?_, hk, h13, h14⟩
  have hng : ¬ (len * te.size > 2 ^ 24) := by omega
  have h9' : Instr.fill (fun i => some (i * te.size, te.size)) init (parts.map fun p => (p.1, Act.eval ⟨tm, ds⟩ p.2)) = some ys.toArray := h9
  rw [h12]
  simp only [Instr.buildSlice, Sem.run_bind, run_underlying hok, Result.andThen_ok, run_sizeOf hoe, hng, if_false]
  by_cases h16 : len * te.size = 0
  · have hi2 : init = #[] := by simp [init, madeCells, h16]
    rw [hi2] at h9'
    simp only [h16, if_true, Sem.run_bind, Sem.run_pure, Result.andThen_ok, show Array.range 0 = #[] from rfl, Array.map_empty, h9', newRow]
    rfl
  · have hi2 : (Array.range (len * te.size)).map (fun x => z.cells[x % z.cells.size]!) = init := rfl
    simp only [if_neg h16, Sem.run_bind, zeroValue, run_typeInfo h2, h5, Sem.run_pure, Result.andThen_ok, hi2, h9', newRow]
    rfl

def makeSliceA (T : Tab) (st : St) (t : TypeId) (l c : LV) (k : LV → St → Prop) : Prop := match T.find t with
  | none => False
  | some ti => match ti.k with
    | .slice e => match T.find e with
      | none => False
      | some te => match Nat.blt 0 te.size with
        | false => False
        | true => match l, c with
          | .v (.int _ a), .v (.int _ b) => (0 ≤ a ∧ a ≤ b ∧ (te.bytes : Int) * b ≤ 281474976710656 ∧ b ≤ 9223372036854775807) ∧ k (.ls st.next a.toNat) (st.new (.arr e te.size a.toNat (fun _ => te.zero)))
          | _, _ => False
    | _ => False

theorem zero_rep {P : Program} {t : TypeId} {ti : TI} (h : ti.ok P t) {i : TypeInfo} {z : Value} (hi : P.info? t = some i) (hz : i.zero = some z) (m : Me) (N : Nat) : RepL m N ti.zero z.cells.toList ∧ z.cells.size = ti.size ∧ (∀ u ∈ z.cells.toList, u.oneCell' = true) ∧ i.size = ti.size ∧ i.bytes = ti.bytes := by
  obtain ⟨i', z', h1, h2, h3, h4, h5, h6, h7⟩ := h.i
  rw [hi] at h1
  injection h1 with h1
  subst h1
  rw [hz] at h4
  injection h4 with h4
  subst h4
  refine ⟨?_, h7, List.all_eq_true.1 h6, h2, h3⟩
  rw [← h5]
  refine RepL.mk (by simp) fun i x y hx hy => ?_
  simp only [List.getElem?_map, hy, Option.map_some, Option.some.injEq] at hx
  subst hx
  exact Rep.ofConst m N y

theorem makeSliceA_sound {P : Program} {T : Tab} (hT : T.Ok P) {org : Me} {st : St} {m : Me} {tm : Array Value} (h : Ok org st m tm) {t : TypeId} {l c : LV} {a b : Value} {k : LV → St → Prop}
    (hk : makeSliceA T st t l c k) (ha : Rep m st.next l a) (hb : Rep m st.next c b) :
    ∃ r v st' m', (Instr.makeSlice t a b).run P m.w = .ok v m'.w ∧ k r st' ∧ Ok org st' m' tm ∧ Rep m' st'.next r v := by
  unfold makeSliceA at hk
  split at hk
  · exact hk.elim
  rename_i ti hti
  have hok := (hT.find hti).k
  split at hk
  rotate_left
  · exact hk.elim
  rename_i e hke
  rw [hke] at hok
  split at hk
  · exact hk.elim
  rename_i te hte
  have hoe := hT.find hte
  split at hk
  · exact hk.elim
  rename_i h0
  have h0 : 0 < te.size := by simpa [Nat.blt_eq] using h0
  split at hk
  rotate_left
  · exact hk.elim
  rename_i k1 x k2 y
  have ha : a = .int k1 x := ha
  have hb : b = .int k2 y := hb
  subst ha; subst hb
  obtain ⟨⟨g1, g2, g3, g4⟩, hk⟩ := hk
  obtain ⟨i, z, h2, h3, h4, h5, h6, h7, h8⟩ := hoe.i
  have hr := run_make (P := P) m.w t e i z hok h2 h5 k1 k2 x y g1 g2 (by rw [h4]; exact g3) g4
  rw [h3] at hr
  obtain ⟨q1, q2, q3, _, _⟩ := zero_rep hoe h2 h5 m 0
  obtain ⟨m', h12, h13, h14⟩ := h.newRow e te.size x.toNat y.toNat (fun _ => te.zero) (madeCells z.cells (y.toNat * te.size)) (by omega) (by unfold maxLen; omega) (size_madeCells _ _) (zeros_one hoe h2 h5 _ fun _ => h0) (fun i hi => by
    refine ⟨z.cells.toList, q1, by simpa using q2, ?_⟩
    have hle : i * te.size + te.size ≤ y.toNat * te.size := by
      have := Nat.mul_le_mul_right te.size (show i + 1 ≤ y.toNat by omega)
      rw [Nat.add_mul] at this; omega
    apply List.ext_getElem?
    intro j
    rw [List.getElem?_take, List.getElem?_drop]
    by_cases hj : j < te.size
    · rw [if_pos hj]
      have hlt : i * te.size + j < y.toNat * te.size := by omega
      simp only [madeCells, Array.toList_map, List.getElem?_map, Array.toList_range, List.getElem?_range hlt, Option.map_some]
      have hm : (i * te.size + j) % z.cells.size = j := by rw [q2, Nat.add_comm, Nat.add_mul_mod_self_right, Nat.mod_eq_of_lt hj]
      rw [hm, getElem!_pos z.cells j (by omega)]
      simp [show j < z.cells.size by omega]
    · rw [if_neg hj]
      symm
      apply List.getElem?_eq_none
      simp; omega)
  exact ⟨_, _, _, m', by rw [h12]; exact hr, hk, h13, h14⟩
end Go.Proofs.Aw
namespace Go.Proofs.Aw
open Go Go.RowKit

/-! ### copy, from a part of one of the call's arrays to a part of another one -/
def copyA (T : Tab) (t : TypeId) (st : St) (x y : LV) (k : LV → St → Prop) : Prop := match T.find t with
  | none => False
  | some ti => match ti.k with
    | .slice e => match T.find e with
      | none => False
      | some te => match Nat.beq te.size 1 with
        | false => False
        | true => match x, y with
          | .as o off n, .as o' off' n' => match Nat.beq o o' with
            | true => False
            | false => match lookO o st.objs, lookO o' st.objs with
              | some (.box ty cs), some (.box ty' cs') => match Nat.ble (off + Nat.min n' n) cs.length && Nat.ble (off' + Nat.min n' n) cs'.length with
                | false => False
                | true => frcC (writeL cs off ((cs'.drop off').take (Nat.min n' n))) fun cs => k (.v (.int .i64 (Nat.min n' n : Nat))) (st.setO o (.box ty cs))
              | _, _ => False
          | _, _ => False
    | _ => False

theorem copyA_sound {P : Program} {T : Tab} (hT : T.Ok P) {t t' ty0 : TypeId} {org : Me} {st : St} {m : Me} {tm : Array Value} (h : Ok org st m tm) {x y : LV} {a b : Value} {k : LV → St → Prop}
    (hk : copyA T t st x y k) (ha : Rep m st.next x a) (hb : Rep m st.next y b) :
    ∃ r v st' m', (Builtin.copy_ #[t, t'] ty0 #[a, b]).run P m.w = .ok v m'.w ∧ k r st' ∧ Ok org st' m' tm ∧ Rep m' st'.next r v := by
  unfold copyA at hk
  split at hk
  · exact hk.elim
  rename_i ti hti
  have hu := (hT.find hti).k
  split at hk
  rotate_left
  · exact hk.elim
  rename_i e hke
  rw [hke] at hu
  split at hk
  · exact hk.elim
  rename_i te hte
  split at hk
  · exact hk.elim
  rename_i hsz
  have hsz := Nat.eq_of_beq_eq_true hsz
  split at hk
  rotate_left
  · exact hk.elim
  rename_i o off n o' off' n'
  split at hk
  · exact hk.elim
  rename_i hne
  have hne : o ≠ o' := fun e => by subst e; rw [beqT] at hne; cases hne
  split at hk
  rotate_left
  · exact hk.elim
  rename_i ty cs ty' cs' ho ho'
  split at hk
  · exact hk.elim
  rename_i hfit
  simp only [Bool.and_eq_true, Nat.ble_eq] at hfit
  rw [frcC_eq] at hk
  obtain ⟨inf, z, i1, i2, _⟩ := (hT.find hte).i
  obtain ⟨l1, bk, c, hbk, rfl⟩ := ha
  obtain ⟨l1', bk', c', hbk', rfl⟩ := hb
  obtain ⟨h2, ⟨b2, ys, h3, h4, h5, h6⟩, h7⟩ := h.sim.obj o _ ho
  obtain ⟨h2', ⟨b2', ys', h3', h4', h5', h6'⟩, h7'⟩ := h.sim.obj o' _ ho'
  rw [hbk] at h3
  injection h3 with h3; injection h3 with h3; injection h3 with h3 _ _
  subst h3
  rw [hbk'] at h3'
  injection h3' with h3'; injection h3' with h3'; injection h3' with h3' _ _
  subst h3'
  have hlen := h5.length
  have hlen' := h5'.length
  let vs := (ys'.drop off').take (Nat.min n' n)
  have hvl : vs.length = Nat.min n' n := by
    show ((ys'.drop off').take (Nat.min n' n)).length = _
    rw [List.length_take, List.length_drop]; omega
  have hvr : RepL m st.next ((cs'.drop off').take (Nat.min n' n)) vs := (h5'.drop off').take _
  have hv1 : ∀ u ∈ vs, u.oneCell' = true := fun u hu => h6' u (List.mem_of_mem_drop (List.mem_of_mem_take hu))
  have hsrc : ∀ j v, vs[j]? = some v → m.w.cell? ((⟨bk', off', none⟩ : Addr).add j) = some v := by
    intro j v hj
    have hj2 : j < vs.length := (List.getElem?_eq_some_iff.1 hj).1
    have : ys'[off' + j]? = some v := by
      have e : vs[j]? = ys'[off' + j]? := by
        show ((ys'.drop off').take (Nat.min n' n))[j]? = _
        rw [List.getElem?_take, if_pos (by omega), List.getElem?_drop]
      rw [← e]; exact hj
    have hc := (cellsAt_block h4' h6') (off' + j) v this
    rw [add_at]
    simpa using hc.1
  have hrun := run_copy_row (P := P) m.w t t' ty0 e bk off n c ⟨bk', off', none⟩ n' c' ys.toArray ty vs hu (by rw [i1]; simp [i2, hsz]) h4 hvl hsrc (by simp; omega) hv1
  have hf : (m.w.setRow bk (wr ys off vs).toArray).heap.size = m.w.heap.size := by simp
  have hsz' : m.w.heap.size ≤ (m.w.setRow bk (wr ys off vs).toArray).heap.size := by rw [hf]; exact Nat.le_refl _
  have hfr : Fr m (m.on (m.w.setRow bk (wr ys off vs).toArray) hsz') :=
    ⟨rfl, rfl, rfl, hsz', fun k hk1 hw => setRow_other _ _ _ _ (fun e => hw (by rw [e]; exact (h7 bk (by rw [hbk]; rfl)).1)), fun k hk => .inl hk, fun k hk => .inl hk, fun k hk _ => hk, fun _ _ => rfl, Nat.le_refl _⟩
  have hw := h.write (m.w.setRow bk (wr ys off vs).toArray) o (.box ty cs) (.box ty (writeL cs off ((cs'.drop off').take (Nat.min n' n)))) ho ⟨rfl, rfl, rfl⟩ hsz'
    (fun k hk1 hk2 => setRow_other _ _ _ _ (fun e => hk2 (by rw [hbk, e]; rfl)))
    ⟨bk, wr ys off vs, hbk, setRow_block _ _ _ _ _ _ h4, by
      have := RepL.fr hfr st.next st.next (by rw [h.sim.n]; exact Nat.le_refl _) (Nat.le_refl _) _ _ (h5.write hvr off)
      exact this, fun u hu => by
      simp only [wr, List.mem_append] at hu
      rcases hu with (hu | hu) | hu
      · exact h6 u (List.mem_of_mem_take hu)
      · exact hv1 u hu
      · exact h6 u (List.mem_of_mem_drop hu)⟩
  refine ⟨_, goInt vs.length, _, _, ?_, hk, hw.1, ?_⟩
  · rw [hrun]; rfl
  · rw [hvl]; rfl
end Go.Proofs.Aw

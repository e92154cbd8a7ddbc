/- A PART OF THE PROOF: an abstract run of the loaded code over value trees, and the functions walked by it. No condition of its own. -/
import Derived.Test.YtanmknmlphkeaaaDoorA10
import Derived.Lib.AppendStr
namespace Go.Proofs.Aw
open Go Go.RowKit

/-! ### a text's bytes behind a slice of the call's own -/
def bytesG (l : List UInt8) (j : Nat) : List LV := [.v (.int .u8 ((l.getD j 0).toNat : Int))]
def isU8z : List LV → Bool
  | [.v (.int .u8 (.ofNat 0))] => true
  | _ => false

/-- append of a text: what the call owns grows -/
def appendS (T : Tab) (t t' : TypeId) (st : St) (x y : LV) (k : LV → St → Prop) : Prop := match y with
  | .str l => match T.find t with
    | none => False
    | some ti => match ti.k with
      | .slice e => match T.find t' with
        | none => False
        | some ti' => match ti'.k with
          | .str => match T.find e with
            | none => False
            | some te => match isU8z te.zero && (Nat.beq te.size 1 && Nat.beq te.bytes 1) && !te.k.agg with
              | false => False
              | true => match x with
                | .v (.slice none 0 0) => l.length ≤ 140737488355328 ∧ k (.ls st.next l.length) { st with objs := (st.next, .arr e 1 l.length (bytesG l)) :: st.objs, next := st.next + 1 }
                | .ls o n => match lookO o st.objs with
                  | some (.arr e' sz n' g) => match Nat.beq sz 1 && Nat.beq e' e with
                    | true => n + l.length ≤ 140737488355328 ∧ k (.ls st.next (n + l.length)) { st with objs := (st.next, .arr e sz (n + l.length) (fun j => match Nat.blt j n with | true => g j | false => bytesG l (j - n))) :: eraseO o st.objs, next := st.next + 1 }
                    | false => False
                  | _ => False
                | _ => False
          | _ => False
      | _ => False
  | _ => False

theorem strCells_at (l : List UInt8) (i : Nat) (hi : i < l.length) : ((Lib.strCells ⟨l.toArray⟩).drop (i * 1)).take 1 = [Value.int .u8 ((l.getD i 0).toNat : Int)] := by
  simp only [Lib.strCells, Nat.mul_one]
  have h1 : i < (l.map fun b => Value.int .u8 (b.toNat : Int)).length := by simpa using hi
  rw [List.drop_eq_getElem_cons h1]
  simp [List.getElem?_eq_getElem hi]

theorem own_uniq {w : World} {b e sz n : Nat} {v : Value} {xs ys : List Value} (h : w.ownsRow b e sz v n xs) (k : w.ownsRow b e sz v n ys) : xs = ys := by
  have l1 := h.1
  have l2 := k.1
  rcases h.2 with ⟨e1, e2⟩ | ⟨g, cap, cur, e1, _, hg, _, _, _, h1⟩
  · subst e2
    have a1 : xs = [] := List.eq_nil_of_length_eq_zero (by simpa using l1)
    have a2 : ys = [] := List.eq_nil_of_length_eq_zero (by simpa using l2)
    rw [a1, a2]
  · rcases k.2 with ⟨e3, _⟩ | ⟨g', cap', cur', e3, _, hg', _, _, _, h2⟩
    · rw [e1] at e3; cases e3
    · rw [e1] at e3
      injection e3 with e4 _ _
      injection e4 with e4
      injection e4 with e4 _ _
      subst e4
      rw [hg] at hg'
      injection hg' with hg'
      injection hg' with hg' _ _
      rw [← h1, ← h2, hg']

theorem run_append_str {P : Program} {t u ty e : TypeId} {i : TypeInfo} (ht : P.underlying t = some (.slice e)) (hu : P.underlying u = some .string) (hi : P.info? e = some i) (hz : i.zero = some (.int .u8 0))
    (hsize : i.size = 1) (hby : i.bytes = 1) (w : World) (v : Value) (n : Nat) (xs : List Value) (hown : w.ownsRow 0 e 1 v n xs) (s : ByteArray) (hbytes : n + s.size ≤ 140737488355328) :
    ∃ v' w', (Builtin.append_ #[t, u] ty #[v, .string s]).run P w = .ok v' w' ∧ w'.ownsRow 0 e 1 v' (n + s.size) (xs ++ Lib.strCells s) ∧ w.grownBy w' v.ownBlock ∧ (v'.ownBlock = v.ownBlock ∨ v'.ownBlock = some w.heap.size) := by
  obtain ⟨v', w', h1, h2, h3, h4⟩ := Lib.run_append_own_string (P := P) w 0 t u ty e i ht hu hi hz hsize hby v n xs hown s (by unfold maxLen; omega) hbytes (Nat.zero_le _)
  refine ⟨v', w', h1, h2, h3, ?_⟩
  have hxl : xs.length = n := by simpa using hown.1
  have det : ∀ {v2 : Value} {w2 : World}, (Builtin.append_ #[t, u] ty #[v, .string s]).run P w = .ok v2 w2 → v' = v2 := fun hr => by
    have := h1.symm.trans hr
    injection this
  rcases hown.2 with ⟨e1, e2⟩ | ⟨g, cap, cur, e1, _, hg, hnc, hcm, hcs, _⟩
  · subst e1
    by_cases hm : s.size = 0
    · rw [h4.2 ⟨rfl, hm⟩]; exact .inl rfl
    · have hr := run_append_nil_string (P := P) w t u ty e i (.int .u8 0) ht hu hi hz s (by omega) (by omega) (by rw [hby]; omega)
      rw [det hr]; exact .inr rfl
  · subst e1
    by_cases hroom : n + s.size ≤ cap
    · have hcs' : cur.size = cap := by simpa using hcs
      have hr := Lib.run_append_room_string (P := P) w t u ty e i ht hu hi hsize g n cap cur hg s hroom (by omega)
      rw [det hr]; exact .inl rfl
    · have holds : ∀ j u, xs[j]? = some u → w.cell? ((⟨g, 0, none⟩ : Addr).add j) = some u := hown.cells (g := g) rfl
      have hr := Lib.run_append_grow_string (P := P) w t u ty e i (.int .u8 0) ht hu hi hz ⟨g, 0, none⟩ n cap xs (by rw [hsize]; simpa using hxl) holds s (by omega) (by omega) (by rw [hby]; exact growslice_fits (by omega) (by omega))
      rw [det hr]; exact .inr rfl

/-- the own nil slice, grown -/
theorem Ok.grewNil {org : Me} {st : St} {m : Me} {tm : Array Value} (h : Ok org st m tm) {v : Value} {w' : World} {e sz mm : Nat} {g' : Nat → List LV} {news : List Value}
    (h4 : w'.ownsRow 0 e sz v mm news) (h5 : m.w.grownBy w' (Value.slice none 0 0).ownBlock) (h6 : v.ownBlock = (Value.slice none 0 0).ownBlock ∨ v.ownBlock = some m.w.heap.size) (hone : ∀ u ∈ news, u.oneCell' = true)
    (helems : ∀ i, i < mm → ∃ ys, RepL m 0 (g' i) ys ∧ ys.length = sz ∧ (news.drop (i * sz)).take sz = ys) :
    ∃ m', m'.w = w' ∧ Ok org { st with objs := (st.next, .arr e sz mm g') :: st.objs, next := st.next + 1 } m' tm ∧ Rep m' (st.next + 1) (.ls st.next mm) v := by
  have hn := h.sim.n
  obtain ⟨A, c, hv⟩ : ∃ A c, v = .slice A mm c ∧ lsOk A mm := by
    rcases h4.2 with ⟨e1, e2⟩ | ⟨gg, cap, cur, e1, _⟩
    · exact ⟨none, 0, by rw [e1, e2], .inl ⟨rfl, e2⟩⟩
    · exact ⟨_, cap, e1, .inr ⟨_, rfl⟩⟩
  have hblk : ∀ k, blkOf v = some k → k = m.w.heap.size ∧ k < w'.heap.size := by
    intro k hk1
    rw [hv.1, ← ownBlock_blk, ← hv.1] at hk1
    refine ⟨?_, (h4.lt k hk1).2⟩
    rcases h6 with h6 | h6
    · rw [h6] at hk1; simp [Value.ownBlock] at hk1
    · rw [h6] at hk1; exact (Option.some.inj hk1).symm
  have hg := h.grow w' v (.arr e sz mm g') none st.objs ⟨h5.os, h5.tape, h5.output⟩ h5.size (fun k hk1 => (hblk k hk1).2) (fun k hk1 _ => h5.block k hk1 (by simp [Value.ownBlock])) (by simp) (fun k ob hk1 => ⟨hk1, by simp⟩)
    (fun k hk1 => .inl (by rw [(hblk k hk1).1]; exact Nat.le_refl _))
  have hf : Fr m (m.grow w' v h5.size fun k hk1 => (hblk k hk1).2) := by
    refine ⟨h5.os, h5.tape, h5.output, h5.size, fun k hk1 _ => h5.block k hk1 (by simp [Value.ownBlock]), fun k hk1 => ?_, fun k hk1 => ?_, fun k hk1 _ => .inl hk1, fun o ho => by simp [Me.grow, setB]; omega, Nat.le_succ _⟩
    all_goals
      rcases hk1 with hk1 | hk1
      · exact .inl hk1
      · exact .inr (by rw [(hblk k hk1).1]; exact Nat.le_refl _)
  have hg := hg ⟨news, h4, hone, fun i hi => by
    obtain ⟨ys, h7, h8, h9⟩ := helems i hi
    exact ⟨ys, RepL.fr hf 0 0 (Nat.zero_le _) (Nat.le_refl _) _ _ h7, h8, h9⟩⟩
  exact ⟨_, rfl, hg.1, Nat.lt_succ_self _, hg.2.2.symm, A, c, hg.2.2.trans hv.1, hv.2⟩

/-- a slice of the call's own, grown -/
theorem Ok.grewOwn {org : Me} {st : St} {m : Me} {tm : Array Value} (h : Ok org st m tm) {o e sz n mm : Nat} {g g' : Nat → List LV} {v : Value} {w' : World} {news : List Value} (ho : lookO o st.objs = some (.arr e sz n g))
    (hrun : ∀ xs, m.w.ownsRow 0 e sz (m.b o) n xs → w'.ownsRow 0 e sz v (n + mm) (xs ++ news)) (h13 : m.w.grownBy w' (m.b o).ownBlock) (h14 : v.ownBlock = (m.b o).ownBlock ∨ v.ownBlock = some m.w.heap.size) (hone : ∀ u ∈ news, u.oneCell' = true)
    (helems : ∀ i, i < mm → ∃ ys, RepL m 0 (g' i) ys ∧ ys.length = sz ∧ (news.drop (i * sz)).take sz = ys) {A : Option Addr} {c : Nat} (h4 : m.b o = .slice A n c) :
    ∃ m', m'.w = w' ∧ Ok org { st with objs := (st.next, .arr e sz (n + mm) (fun j => match Nat.blt j n with | true => g j | false => g' (j - n))) :: eraseO o st.objs, next := st.next + 1 } m' tm ∧ Rep m' (st.next + 1) (.ls st.next (n + mm)) v := by
  have hn := h.sim.n
  obtain ⟨h6, ⟨xs, h7, h8, h9⟩, h10⟩ := h.sim.obj o _ ho
  have h12 := hrun xs h7
  have hob : (m.b o).ownBlock = blkOf (m.b o) := by rw [h4]; exact ownBlock_blk
  obtain ⟨A', c', hv⟩ : ∃ A' c', v = .slice A' (n + mm) c' ∧ lsOk A' (n + mm) := by
    rcases h12.2 with ⟨e1, e2⟩ | ⟨gg, cap, cur, e1, _⟩
    · exact ⟨none, 0, by rw [e1, e2], .inl ⟨rfl, e2⟩⟩
    · exact ⟨_, cap, e1, .inr ⟨_, rfl⟩⟩
  have hblk : ∀ k, blkOf v = some k → (k = m.w.heap.size ∨ blkOf (m.b o) = some k) ∧ k < w'.heap.size := by
    intro k hk1
    rw [hv.1, ← ownBlock_blk, ← hv.1] at hk1
    refine ⟨?_, (h12.lt k hk1).2⟩
    rcases h14 with h14 | h14
    · right; rw [← hob, ← h14]; exact hk1
    · left; rw [h14] at hk1; exact (Option.some.inj hk1).symm
  have hkeep : ∀ k, k < m.w.heap.size → blkOf (m.b o) ≠ some k → w'.heap[k]? = m.w.heap[k]? := fun k hk1 hk2 => h13.block k hk1 (fun e => hk2 (by rw [← hob]; exact e.symm))
  have hf : Fr m (m.grow w' v h13.size fun k hk1 => (hblk k hk1).2) := by
    refine ⟨h13.os, h13.tape, h13.output, h13.size, fun k hk1 hw => hkeep k hk1 fun e => hw (h10 k e).1, fun k hk1 => ?_, fun k hk1 => ?_, fun k hk1 _ => .inl hk1, fun o ho => by simp [Me.grow, setB]; omega, Nat.le_succ _⟩
    · rcases hk1 with hk1 | hk1
      · exact .inl hk1
      · rcases (hblk k hk1).1 with h | h
        · exact .inr (by rw [h]; exact Nat.le_refl _)
        · exact .inl (h10 k h).1
    · rcases hk1 with hk1 | hk1
      · exact .inl hk1
      · rcases (hblk k hk1).1 with h | h
        · exact .inr (by rw [h]; exact Nat.le_refl _)
        · exact .inl (m.sub k (h10 k h).1)
  have hg := h.grow w' v (.arr e sz (n + mm) (fun j => match Nat.blt j n with | true => g j | false => g' (j - n))) (some o) (eraseO o st.objs) ⟨h13.os, h13.tape, h13.output⟩ h13.size (fun k hk1 => (hblk k hk1).2)
    (fun k hk1 hk2 => hkeep k hk1 (hk2 o rfl)) (fun o' ho' => by injection ho' with ho'; subst ho'; exact ⟨_, ho⟩)
    (fun k ob hk1 => by
      rw [lookO_erase] at hk1
      split at hk1
      · cases hk1
      · rename_i hne; exact ⟨hk1, fun e => hne (Option.some.inj e).symm⟩)
    (fun k hk1 => by
      rcases (hblk k hk1).1 with h | h
      · exact .inl (by rw [h]; exact Nat.le_refl _)
      · exact .inr ⟨o, rfl, h⟩)
    ⟨xs ++ news, h12, fun u hu => by
      rcases List.mem_append.1 hu with hu | hu
      · exact h8 u hu
      · exact hone u hu, fun i hi => by
      have hxl : xs.length = n * sz := h7.1
      by_cases hin : i < n
      · obtain ⟨ys, q1, q2, q3⟩ := h9 i hin
        have hle : i * sz + sz ≤ n * sz := by
          have := Nat.mul_le_mul_right sz (show i + 1 ≤ n by omega)
          rw [Nat.add_mul] at this; omega
        refine ⟨ys, ?_, q2, ?_⟩
        · have hb : Nat.blt i n = true := Nat.blt_eq.mpr hin
          simp only [hb]
          exact RepL.fr hf 0 0 (Nat.zero_le _) (Nat.le_refl _) _ _ q1
        · rw [List.drop_append_of_le_length (by omega), List.take_append_of_le_length (by rw [List.length_drop]; omega)]
          exact q3
      · obtain ⟨ys, q1, q2, q3⟩ := helems (i - n) (by omega)
        refine ⟨ys, ?_, q2, ?_⟩
        · have hb : Nat.blt i n = false := by
            cases hb : Nat.blt i n with
            | true => exact absurd (Nat.blt_eq.mp hb) hin
            | false => rfl
          simp only [hb]
          exact RepL.fr hf 0 0 (Nat.zero_le _) (Nat.le_refl _) _ _ q1
        · have e3 : i * sz = xs.length + (i - n) * sz := by rw [hxl, ← Nat.add_mul]; congr 1; omega
          rw [e3, List.drop_append]
          simp only [Nat.add_sub_cancel_left]
          rw [List.drop_of_length_le (by omega), List.nil_append]
          exact q3⟩
  exact ⟨_, rfl, hg.1, Nat.lt_succ_self _, hg.2.2.symm, A', c', hg.2.2.trans hv.1, hv.2⟩

theorem u8_zero {P : Program} {e : TypeId} {te : TI} (h : te.ok P e) (hz : isU8z te.zero = true) (hs : te.size = 1) (hb : te.bytes = 1) (ha : te.k.agg = false) : ∃ i, P.info? e = some i ∧ i.zero = some (.int .u8 0) ∧ i.size = 1 ∧ i.bytes = 1 := by
  obtain ⟨i, z, h2, h3, h4, h5, h6, h7, h8⟩ := h.i
  refine ⟨i, h2, ?_, h3.trans hs, h4.trans hb⟩
  have ho := h.o i z h2 h5
  rw [ha] at ho
  have hc := cells_one (y := z) ho
  rw [hc] at h6
  rw [h5]
  have h6 : [ofConst z] = te.zero := by simpa using h6
  rw [← h6] at hz
  clear h6 hc ho h8 h7 h5 h4 h3 h2
  have : z = .int .u8 0 := by
    cases z with
    | int k n =>
      cases k <;> cases n with
      | ofNat a => cases a <;> first | rfl | cases hz
      | negSucc a => cases hz
    | _ => cases hz
  rw [this]

theorem appendS_sound {P : Program} {T : Tab} (hT : T.Ok P) {t t' ty : TypeId} {org : Me} {st : St} {m : Me} {tm : Array Value} (h : Ok org st m tm) {x y : LV} {a b : Value} {k : LV → St → Prop}
    (hk : appendS T t t' st x y k) (ha : Rep m st.next x a) (hb : Rep m st.next y b) :
    ∃ r v st' m', (Builtin.append_ #[t, t'] ty #[a, b]).run P m.w = .ok v m'.w ∧ k r st' ∧ Ok org st' m' tm ∧ Rep m' st'.next r v := by
  unfold appendS at hk
  split at hk
  rotate_left
  · exact hk.elim
  rename_i l
  have hb : b = strV l := hb
  subst hb
  split at hk
  · exact hk.elim
  rename_i ti hti
  have hu := (hT.find hti).k
  split at hk
  rotate_left
  · exact hk.elim
  rename_i e hke
  rw [hke] at hu
  split at hk
  · exact hk.elim
  rename_i ti' hti'
  have hu' := (hT.find hti').k
  split at hk
  rotate_left
  · exact hk.elim
  rename_i hke'
  rw [hke'] at hu'
  split at hk
  · exact hk.elim
  rename_i te hte
  split at hk
  · exact hk.elim
  rename_i hcond
  simp only [Bool.and_eq_true, Bool.not_eq_true'] at hcond
  obtain ⟨i, hi1, hi2, hi3, hi4⟩ := u8_zero (hT.find hte) hcond.1.1 (Nat.eq_of_beq_eq_true hcond.1.2.1) (Nat.eq_of_beq_eq_true hcond.1.2.2) hcond.2
  have hone : ∀ u ∈ Lib.strCells ⟨l.toArray⟩, u.oneCell' = true := Lib.strCells_oneCell _
  have helems : ∀ i, i < l.length → ∃ ys, RepL m 0 (bytesG l i) ys ∧ ys.length = 1 ∧ ((Lib.strCells ⟨l.toArray⟩).drop (i * 1)).take 1 = ys := fun i hi => ⟨_, ⟨_, _, rfl, rfl, rfl⟩, rfl, strCells_at l i hi⟩
  split at hk
  · have ha : a = .slice none 0 0 := ha
    subst ha
    obtain ⟨h1, hk⟩ := hk
    obtain ⟨v, w', h3, h4, h5, h6⟩ := run_append_str (P := P) (ty := ty) hu hu' hi1 hi2 hi3 hi4 m.w (.slice none 0 0) 0 [] (own_nil0 _ _ _) ⟨l.toArray⟩ (by simp only [strV_size]; omega)
    simp only [Nat.zero_add, List.nil_append, strV_size] at h4
    obtain ⟨m', rfl, h7, h8⟩ := h.grewNil h4 h5 h6 hone helems
    exact ⟨_, v, _, m', h3, hk, h7, h8⟩
  · rename_i o n
    split at hk
    rotate_left
    · exact hk.elim
    rename_i e' sz n' g ho
    split at hk
    rotate_left
    · exact hk.elim
    rename_i hc2
    simp only [Bool.and_eq_true] at hc2
    have e1 := Nat.eq_of_beq_eq_true hc2.1
    have e2 := Nat.eq_of_beq_eq_true hc2.2
    subst e1; subst e2
    obtain ⟨h1, hk⟩ := hk
    obtain ⟨h3, rfl, A, c, h4, h5⟩ := ha
    obtain ⟨h6, ⟨xs, h7, h8, h9⟩, h10⟩ := h.sim.obj o _ ho
    have hnn : n' = n := by
      rw [h4] at h7
      rcases h7.2 with ⟨q1, q2⟩ | ⟨gg, cap, cur, q1, _⟩
      · injection q1 with _ q3 _; omega
      · injection q1 with _ q3 _; exact q3.symm
    subst hnn
    obtain ⟨v, w', h11, h12, h13, h14⟩ := run_append_str (P := P) (ty := ty) hu hu' hi1 hi2 hi3 hi4 m.w (m.b o) n' xs h7 ⟨l.toArray⟩ (by simp only [strV_size]; omega)
    simp only [strV_size] at h12
    obtain ⟨m', rfl, h15, h16⟩ := h.grewOwn ho (v := v) (w' := w') (news := Lib.strCells ⟨l.toArray⟩) (mm := l.length) (g' := bytesG l) (fun xs' hx => by
      have : xs' = xs := own_uniq hx h7
      rw [this]; exact h12) h13 h14 hone helems h4
    exact ⟨_, v, _, m', h11, hk, h15, h16⟩
  · exact hk.elim
end Go.Proofs.Aw

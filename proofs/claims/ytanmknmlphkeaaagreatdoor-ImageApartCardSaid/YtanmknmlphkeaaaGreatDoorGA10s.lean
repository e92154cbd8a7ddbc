/- A PART OF THE PROOF: an abstract run of the loaded code over value trees, and the functions walked by it. No condition of its own. -/
import Derived.Test.YtanmknmlphkeaaaGreatDoorA10
import Derived.Lib.AppendStr
namespace Go.Proofs.Aw
open Go Go.RowKit

/-! ### a text's bytes behind a slice of the call's own -/
def bytesG (l : List UInt8) (j : Nat) : List LV := [.v (.int .u8 ((l.getD j 0).toNat : Int))]
def isU8z : List LV → Bool
  | [.v (.int .u8 (.ofNat 0))] => true
  | _ => false

/-- append of a text: what the call owns grows -/
def appendS (T : Tab) (t t' : TypeId) (st : St) (x y : LV) (k : LV → St → Prop) : Prop := match y with
  | .str l => match T.find t with
    | none => False
    | some ti => match ti.k with
      | .slice e => match T.find t' with
        | none => False
        | some ti' => match ti'.k with
          | .str => match T.find e with
            | none => False
            | some te => match isU8z te.zero && (Nat.beq te.size 1 && Nat.beq te.bytes 1) && !te.k.agg with
              | false => False
              | true => match x with
                | .v (.slice none 0 0) => l.length ≤ 140737488355328 ∧ k (.ls st.next l.length) { st with objs := (st.next, .arr e 1 l.length (bytesG l)) :: st.objs, next := st.next + 1 }
                | .ls o n => match lookO o st.objs with
                  | some (.arr e' sz n' g) => match Nat.beq sz 1 && Nat.beq e' e with
                    | true => n + l.length ≤ 140737488355328 ∧ k (.ls st.next (n + l.length)) { st with objs := (st.next, .arr e sz (n + l.length) (fun j => match Nat.blt j n with | true => g j | false => bytesG l (j - n))) :: eraseO o st.objs, next := st.next + 1 }
                    | false => False
                  | _ => False
                | _ => False
          | _ => False
      | _ => False
  | _ => False

theorem strCells_at (l : List UInt8) (i : Nat) (hi : i < l.length) : ((Lib.strCells ⟨l.toArray⟩).drop (i * 1)).take 1 = [Value.int .u8 ((l.getD i 0).toNat : Int)] := by
  simp only [Lib.strCells, Nat.mul_one]
  have h1 : i < (l.map fun b => Value.int .u8 (b.toNat : Int)).length := by simpa using hi
  rw [List.drop_eq_getElem_cons h1]
  simp [List.getElem?_eq_getElem hi]

theorem own_uniq {w : World} {b e sz n : Nat} {v : Value} {xs ys : List Value} (h : w.ownsRow b e sz v n xs) (k : w.ownsRow b e sz v n ys) : xs = ys := by
  have l1 := h.1
  have l2 := k.1
  rcases h.2 with ⟨e1, e2⟩ | ⟨g, cap, cur, e1, _, hg, _, _, _, h1⟩
  · subst e2
    have a1 : xs = [] := List.eq_nil_of_length_eq_zero (by simpa using l1)
    have a2 : ys = [] := List.eq_nil_of_length_eq_zero (by simpa using l2)
    rw [a1, a2]
  · rcases k.2 with ⟨e3, _⟩ | ⟨g', cap', cur', e3, _, hg', _, _, _, h2⟩
    · rw [e1] at e3; cases e3
    · rw [e1] at e3
      injection e3 with e4 _ _
      injection e4 with e4
      injection e4 with e4 _ _
      subst e4
      rw [hg] at hg'
      injection hg' with hg'
      injection hg' with hg' _ _
      rw [← h1, ← h2, hg']

theorem run_append_str {P : Program} {t u ty e : TypeId} {i : TypeInfo} (ht : P.underlying t = some (.slice e)) (hu : P.underlying u = some .string) (hi : P.info? e = some i) (hz : i.zero = some (.int .u8 0))
    (hsize : i.size = 1) (hby : i.bytes = 1) (w : World) (v : Value) (n : Nat) (xs : List Value) (hown : w.ownsRow 0 e 1 v n xs) (s : ByteArray) (hbytes : n + s.size ≤ 140737488355328) :
    ∃ v' w', (Builtin.append_ #[t, u] ty #[v, .string s]).run P w = .ok v' w' ∧ w'.ownsRow 0 e 1 v' (n + s.size) (xs ++ Lib.strCells s) ∧ w.grownBy w' v.ownBlock ∧ (v'.ownBlock = v.ownBlock ∨ v'.ownBlock = some w.heap.size) := by
  obtain ⟨v', w', h1, h2, h3, h4⟩ := Lib.run_append_own_string (P := P) w 0 t u ty e i ht hu hi hz hsize hby v n xs hown s (by unfold maxLen; omega) hbytes (Nat.zero_le _)
  refine ⟨v', w', h1, h2, h3, ?_⟩
  have hxl : xs.length = n := by simpa using hown.1
  have det : ∀ {v2 : Value} {w2 : World}, (Builtin.append_ #[t, u] ty #[v, .string s]).run P w = .ok v2 w2 → v' = v2 := fun hr => by
    have := h1.symm.trans hr
    injection this
  rcases hown.2 with ⟨e1, e2⟩ | ⟨g, cap, cur, e1, _, hg, hnc, hcm, hcs, _⟩
  · subst e1
    by_cases hm : s.size = 0
    · rw [h4.2 ⟨rfl, hm⟩]; exact .inl rfl
    · have hr := run_append_nil_string (P := P) w t u ty e i (.int .u8 0) ht hu hi hz s (by omega) (by omega) (by rw [hby]; omega)
      rw [det hr]; exact .inr rfl
  · subst e1
    by_cases hroom : n + s.size ≤ cap
    · have hcs' : cur.size = cap := by simpa using hcs
      have hr := Lib.run_append_room_string (P := P) w t u ty e i ht hu hi hsize g n cap cur hg s hroom (by omega)
      rw [det hr]; exact .inl rfl
    · have holds : ∀ j u, xs[j]? = some u → w.cell? ((⟨g, 0, none⟩ : Addr).add j) = some u := hown.cells (g := g) rfl
      have hr := Lib.run_append_grow_string (P := P) w t u ty e i (.int .u8 0) ht hu hi hz ⟨g, 0, none⟩ n cap xs (by rw [hsize]; simpa using hxl) holds s (by omega) (by omega) (by rw [hby]; exact growslice_fits (by omega) (by omega))
      rw [det hr]; exact .inr rfl

/-- the own nil slice, grown -/
theorem Ok.grewNil {org : Me} {st : St} {m : Me} {tm : Array Value} (h : Ok org st m tm) {v : Value} {w' : World} {e sz mm : Nat} {g' : Nat → List LV} {news : List Value}
    (h4 : w'.ownsRow 0 e sz v mm news) (h5 : m.w.grownBy w' (Value.slice none 0 0).ownBlock) (h6 : v.ownBlock = (Value.slice none 0 0).ownBlock ∨ v.ownBlock = some m.w.heap.size) (hone : ∀ u ∈ news, u.oneCell' = true)
    (helems : ∀ i, i < mm → ∃ ys, RepL m 0 (g' i) ys ∧ ys.length = sz ∧ (news.drop (i * sz)).take sz = ys) :
    ∃ m', m'.w = w' ∧ Ok org { st with objs := (st.next, .arr e sz mm g') :: st.objs, next := st.next + 1 } m' tm ∧ Rep m' (st.next + 1) (.ls st.next mm) v := by
  have hn := h.sim.n
  obtain ⟨A, c, hv⟩ : ∃ A c, v = .slice A mm c ∧ lsOk A mm := by
    rcases h4.2 with ⟨e1, e2⟩ | ⟨gg, cap, cur, e1, _⟩
    · exact ⟨none, 0, by rw [e1, e2], .inl ⟨rfl, e2⟩⟩
    · exact ⟨_, cap, e1, .inr ⟨_, rfl⟩⟩
  have hblk : ∀ k, blkOf v = some k → k = m.w.heap.size ∧ k < w'.heap.size := by
    intro k hk1
    rw [hv.1, ← ownBlock_blk, ← hv.1] at hk1
    refine ⟨?_, (h4.lt k hk1).2⟩
    rcases h6 with h6 | h6
    · rw [h6] at hk1; simp [Value.ownBlock] at hk1
    · rw [h6] at hk1; exact (Option.some.inj hk1).symm
  have hg := h.grow w' v (.arr e sz mm g') none st.objs ⟨h5.os, h5.tape, h5.output⟩ h5.size (fun k hk1 => (hblk k hk1).2) (fun k hk1 _ => h5.block k hk1 (by simp [Value.ownBlock])) (by simp) (fun k ob hk1 => ⟨hk1, by simp⟩)
    (fun k hk1 => .inl (by rw [(hblk k hk1).1]; exact Nat.le_refl _))
  have hf : Fr m (m.grow w' v h5.size fun k hk1 => (hblk k hk1).2) := by
    refine ⟨h5.os, h5.tape, h5.output, h5.size, fun k hk1 _ => h5.block k hk1 (by simp [Value.ownBlock]), fun k hk1 => ?_, fun k hk1 => ?_, fun k hk1 _ => .inl hk1, fun o ho => by simp [Me.grow, setB]; omega, Nat.le_succ _⟩
    all_goals
      rcases hk1 with hk1 | hk1
      · exact .inl hk1
      · exact .inr (by rw [(hblk k hk1).1]; exact Nat.le_refl _)
  have hg := hg ⟨news, h4, hone, fun i hi => by
    obtain ⟨ys, h7, h8, h9⟩ := helems i hi
    exact ⟨ys, RepL.fr hf 0 0 (Nat.zero_le _) (Nat.le_refl _) _ _ h7, h8, h9⟩⟩
  exact ⟨_, rfl, hg.1, Nat.lt_succ_self _, hg.2.2.symm, A, c, hg.2.2.trans hv.1, hv.2⟩

/-- a slice of the call's own, grown -/
theorem Ok.grewOwn {org : Me} {st : St} {m : Me} {tm : Array Value} (h : Ok org st m tm) {o e sz n mm : Nat} {g g' : Nat → List LV} {v : Value} {w' : World} {news : List Value} (ho : lookO o st.objs = some (.arr e sz n g))
    (hrun : ∀ xs, m.w.ownsRow 0 e sz (m.b o) n xs → w'.ownsRow 0 e sz v (n + mm) (xs ++ news)) (h13 : m.w.grownBy w' (m.b o).ownBlock) (h14 : v.ownBlock = (m.b o).ownBlock ∨ v.ownBlock = some m.w.heap.size) (hone : ∀ u ∈ news, u.oneCell' = true)
    (helems : ∀ i, i < mm → ∃ ys, RepL m 0 (g' i) ys ∧ ys.length = sz ∧ (news.drop (i * sz)).take sz = ys) {A : Option Addr} {c : Nat} (h4 : m.b o = .slice A n c) :
    ∃ m', m'.w = w' ∧ Ok org { st with objs := (st.next, .arr e sz (n + mm) (fun j => match Nat.blt j n with | true => g j | false => g' (j - n))) :: eraseO o st.objs, next := st.next + 1 } m' tm ∧ Rep m' (st.next + 1) (.ls st.next (n + mm)) v := by
  have hn := h.sim.n
  obtain ⟨h6, ⟨xs, h7, h8, h9⟩, h10⟩ := h.sim.obj o _ ho
  have h12 := hrun xs h7
  have hob : (m.b o).ownBlock = blkOf (m.b o) := by rw [h4]; exact ownBlock_blk
  obtain ⟨A', c', hv⟩ : ∃ A' c', v = .slice A' (n + mm) c' ∧ lsOk A' (n + mm) := by
    rcases h12.2 with ⟨e1, e2⟩ | ⟨gg, cap, cur, e1, _⟩
    · exact ⟨none, 0, by rw [e1, e2], .inl ⟨rfl, e2⟩⟩
    · exact ⟨_, cap, e1, .inr ⟨_, rfl⟩⟩
  have hblk : ∀ k, blkOf v = some k → (k = m.w.heap.size ∨ blkOf (m.b o) = some k) ∧ k < w'.heap.size := by
    intro k hk1
    rw [hv.1, ← ownBlock_blk, ← hv.1] at hk1
    refine ⟨?_, (h12.lt k hk1).2⟩
    rcases h14 with h14 | h14
    · right; rw [← hob, ← h14]; exact hk1
    · left; rw [h14] at hk1; exact (Option.some.inj hk1).symm
  have hkeep : ∀ k, k < m.w.heap.size → blkOf (m.b o) ≠ some k → w'.heap[k]? = m.w.heap[k]? := fun k hk1 hk2 => h13.block k hk1 (fun e => hk2 (by rw [← hob]; exact e.symm))
  have hf : Fr m (m.grow w' v h13.size fun k hk1 => (hblk k hk1).2) := by
    refine ⟨h13.os, h13.tape, h13.output, h13.size, fun k hk1 hw => hkeep k hk1 fun e => hw (h10 k e).1, fun k hk1 => ?_, fun k hk1 => ?_, fun k hk1 _ => .inl hk1, fun o ho => by simp [Me.grow, setB]; omega, Nat.le_succ _⟩
    · rcases hk1 with hk1 | hk1
      · exact .inl hk1
      · rcases (hblk k hk1).1 with h | h
        · exact .inr (by rw [h]; exact Nat.le_refl _)
        · exact .inl (h10 k h).1
    · rcases hk1 with hk1 | hk1
      · exact .inl hk1
      · rcases (hblk k hk1).1 with h | h
        · exact .inr (by rw [h]; exact Nat.le_refl _)
        · exact .inl (m.sub k (h10 k h).1)
  have hg := h.grow w' v (.arr e sz (n + mm) (fun j => match Nat.blt j n with | true => g j | false => g' (j - n))) (some o) (eraseO o st.objs) ⟨h13.os, h13.tape, h13.output⟩ h13.size (fun k hk1 => (hblk k hk1).2)
    (fun k hk1 hk2 => hkeep k hk1 (hk2 o rfl)) (fun o' ho' => by injection ho' with ho'; subst ho'; exact ⟨_, ho⟩)
    (fun k ob hk1 => by
      rw [lookO_erase] at hk1
      split at hk1
      · cases hk1
      · rename_i hne; exact ⟨hk1, fun e => hne (Option.some.inj e).symm⟩)
    (fun k hk1 => by
      rcases (hblk k hk1).1 with h | h
      · exact .inl (by rw [h]; exact Nat.le_refl _)
      · exact .inr ⟨o, rfl, h⟩)
    ⟨xs ++ news, h12, fun u hu => by
      rcases List.mem_append.1 hu with hu | hu
      · exact h8 u hu
      · exact hone u hu, fun i hi => by
      have hxl : xs.length = n * sz := h7.1
      by_cases hin : i < n
      · obtain ⟨ys, q1, q2, q3⟩ := h9 i hin
        have hle : i * sz + sz ≤ n * sz := by
          have := Nat.mul_le_mul_right sz (show i + 1 ≤ n by omega)
          rw [Nat.add_mul] at this; omega
        refine ⟨ys, ?_, q2, ?_⟩
        · have hb : Nat.blt i n = true := Nat.blt_eq.mpr hin
          simp only [hb]
          exact RepL.fr hf 0 0 (Nat.zero_le _) (Nat.le_refl _) _ _ q1
        · rw [List.drop_append_of_le_length (by omega), List.take_append_of_le_length (by rw [List.length_drop]; omega)]
          exact q3
      · obtain ⟨ys, q1, q2, q3⟩ := helems (i - n) (by omega)
        refine ⟨ys, ?_, q2, ?_⟩
        · have hb : Nat.blt i n = false := by
            cases hb : Nat.blt i n with
            | true => exact absurd (Nat.blt_eq.mp hb) hin
            | false => rfl
          simp only [hb]
          exact RepL.fr hf 0 0 (Nat.zero_le _) (Nat.le_refl _) _ _ q1
        · have e3 : i * sz = xs.length + (i - n) * sz := by rw [hxl, ← Nat.add_mul]; congr 1; omega
          rw [e3, List.drop_append]
          simp only [Nat.add_sub_cancel_left]
          rw [List.drop_of_length_le (by omega), List.nil_append]
          exact q3⟩
  exact ⟨_, rfl, hg.1, Nat.lt_succ_self _, hg.2.2.symm, A', c', hg.2.2.trans hv.1, hv.2⟩

theorem u8_zero {P : Program} {e : TypeId} {te : TI} (h : te.ok P e) (hz : isU8z te.zero = true) (hs : te.size = 1) (hb : te.bytes = 1) (ha : te.k.agg = false) : ∃ i, P.info? e = some i ∧ i.zero = some (.int .u8 0) ∧ i.size = 1 ∧ i.bytes = 1 := by
  obtain ⟨i, z, h2, h3, h4, h5, h6, h7, h8⟩ := h.i
  refine ⟨i, h2, ?_, h3.trans hs, h4.trans hb⟩
  have ho := h.o i z h2 h5
  rw [ha] at ho
  have hc := cells_one (y := z) ho
  rw [hc] at h6
  rw [h5]
  have h6 : [ofConst z] = te.zero := by simpa using h6
  rw [← h6] at hz
  clear h6 hc ho h8 h7 h5 h4 h3 h2
  have : z = .int .u8 0 := by
    cases z with
    | int k n =>
      cases k <;> cases n with
      | ofNat a => cases a <;> first | rfl | cases hz
      | negSucc a => cases hz
    | _ => cases hz
  rw [this]

theorem appendS_sound {P : Program} {T : Tab} (hT : T.Ok P) {t t' ty : TypeId} {org : Me} {st : St} {m : Me} {tm : Array Value} (h : Ok org st m tm) {x y : LV} {a b : Value} {k : LV → St → Prop}
    (hk : appendS T t t' st x y k) (ha : Rep m st.next x a) (hb : Rep m st.next y b) :
    ∃ r v st' m', (Builtin.append_ #[t, t'] ty #[a, b]).run P m.w = .ok v m'.w ∧ k r st' ∧ Ok org st' m' tm ∧ Rep m' st'.next r v := by
  unfold appendS at hk
  split at hk
  rotate_left
  · exact hk.elim
  rename_i l
  have hb : b = strV l := hb
  subst hb
  split at hk
  · exact hk.elim
  rename_i ti hti
  have hu := (hT.find hti).k
  split at hk
  rotate_left
  · exact hk.elim
  rename_i e hke
  rw [hke] at hu
  split at hk
  · exact hk.elim
  rename_i ti' hti'
  have hu' := (hT.find hti').k
  split at hk
  rotate_left
  · exact hk.elim
  rename_i hke'
  rw [hke'] at hu'
  split at hk
  · exact hk.elim
  rename_i te hte
  split at hk
  · exact hk.elim
  rename_i hcond
  simp only [Bool.and_eq_true, Bool.not_eq_true'] at hcond
  obtain ⟨i, hi1, hi2, hi3, hi4⟩ := u8_zero (hT.find hte) hcond.1.1 (Nat.eq_of_beq_eq_true hcond.1.2.1) (Nat.eq_of_beq_eq_true hcond.1.2.2) hcond.2
  have hone : ∀ u ∈ Lib.strCells ⟨l.toArray⟩, u.oneCell' = true := Lib.strCells_oneCell _
  have helems : ∀ i, i < l.length → ∃ ys, RepL m 0 (bytesG l i) ys ∧ ys.length = 1 ∧ ((Lib.strCells ⟨l.toArray⟩).drop (i * 1)).take 1 = ys := fun i hi => ⟨_, ⟨_, _, rfl, rfl, rfl⟩, rfl, strCells_at l i hi⟩
  split at hk
  · have ha : a = .slice none 0 0 := ha
    subst ha
    obtain ⟨h1, hk⟩ := hk
    obtain ⟨v, w', h3, h4, h5, h6⟩ := run_append_str (P := P) (ty := ty) hu hu' hi1 hi2 hi3 hi4 m.w (.slice none 0 0) 0 [] (own_nil0 _ _ _) ⟨l.toArray⟩ (by simp only [strV_size]; omega)
    simp only [Nat.zero_add, List.nil_append, strV_size] at h4
    obtain ⟨m', rfl, h7, h8⟩ := h.grewNil h4 h5 h6 hone helems
    exact ⟨_, v, _, m', h3, hk, h7, h8⟩
  · rename_i o n
    split at hk
    rotate_left
    · exact hk.elim
    rename_i e' sz n' g ho
    split at hk
    rotate_left
    · exact hk.elim
    rename_i hc2
    simp only [Bool.and_eq_true] at hc2
    have e1 := Nat.eq_of_beq_eq_true hc2.1
    have e2 := Nat.eq_of_beq_eq_true hc2.2
    subst e1; subst e2
    obtain ⟨h1, hk⟩ := hk
    obtain ⟨h3, rfl, A, c, h4, h5⟩ := ha
    obtain ⟨h6, ⟨xs, h7, h8, h9⟩, h10⟩ := h.sim.obj o _ ho
    have hnn : n' = n := by
      rw [h4] at h7
      rcases h7.2 with ⟨q1, q2⟩ | ⟨gg, cap, cur, q1, _⟩
      · injection q1 with _ q3 _; omega
      · injection q1 with _ q3 _; exact q3.symm
    subst hnn
    obtain ⟨v, w', h11, h12, h13, h14⟩ := run_append_str (P := P) (ty := ty) hu hu' hi1 hi2 hi3 hi4 m.w (m.b o) n' xs h7 ⟨l.toArray⟩ (by simp only [strV_size]; omega)
    simp only [strV_size] at h12
    obtain ⟨m', rfl, h15, h16⟩ := h.grewOwn ho (v := v) (w' := w') (news := Lib.strCells ⟨l.toArray⟩) (mm := l.length) (g' := bytesG l) (fun xs' hx => by
      have : xs' = xs := own_uniq hx h7
      rw [this]; exact h12) h13 h14 hone helems h4
    exact ⟨_, v, _, m', h11, hk, h15, h16⟩
  · exact hk.elim
end Go.Proofs.Aw
namespace Go.Proofs.Aw
open Go Go.RowKit

/-! ### not, minus; conversions -/
def unA (op : UnOp) (x : LV) (K : LV → Prop) : Prop := match op, x with
  | .not, .v (.bool true) => K (.v (.bool false))
  | .not, .v (.bool false) => K (.v (.bool true))
  | .not, .bs b => K (.bs (!b))
  | .neg, .v (.int k n) => K (.v (.int k (k.wrap (0 - n))))
  | .xor, .v (.int k n) => K (.v (.int k (bitsA .xor k (if k.signed then -1 else k.max) n)))
  | _, _ => False
theorem unA_sound {P : Program} {op : UnOp} {x : LV} {K : LV → Prop} {m : Me} {N : Nat} {y : Value} (h : unA op x K) (hr : Rep m N x y) (w : World) : ∃ r v, K r ∧ Rep m N r v ∧ (Op.unary op y).run P w = .ok v w := by
  unfold unA at h
  split at h
  · have : y = .bool true := hr
    subst this; exact ⟨_, _, h, rfl, rfl⟩
  · have : y = .bool false := hr
    subst this; exact ⟨_, _, h, rfl, rfl⟩
  · rename_i b
    have : y = .bool b := hr
    subst this; exact ⟨_, _, h, rfl, rfl⟩
  · rename_i k n
    have : y = .int k n := hr
    subst this; exact ⟨_, _, h, rfl, by simp [Op.unary, Op.intArith]⟩
  · rename_i k n
    have : y = .int k n := hr
    subst this; exact ⟨_, _, h, rfl, by simp [Op.unary, Op.intBits, bitsA]⟩
  · exact h.elim

/-- a byte of a cell -/
def byteCells (n : Nat) (g : Nat → List LV) (l : List UInt8) : Prop := l.length = n ∧ ∀ i, i < n → g i = [.v (.int .u8 ((l.getD i 0).toNat : Int))]

def convA (T : Tab) (st : St) (src dst : TypeId) (x : LV) (K : LV → Prop) : Prop := match T.find src, T.find dst with
  | some ts, some td => match td.k with
    | .int k => match x with
      | .v (.int _ n) => K (.v (.int k (k.wrap n)))
      | _ => False
    | .str => match x with
      | .str l => K (.str l)
      | .v (.slice none 0 0) => match ts.k with
        | .slice e => match T.find e with
          | some te => match te.k with
            | .int .u8 => K (.str [])
            | _ => False
          | none => False
        | _ => False
      | x => match ts.k with
        | .slice e => match T.find e with
          | some te => match te.k with
            | .int .u8 => rowA st x fun sz n g => ∃ l, byteCells n g l ∧ K (.str l)
            | _ => False
          | none => False
        | _ => False
    | _ => False
  | _, _ => False

theorem run_convert_str {P : Program} {src dst : TypeId} {d : TypeDesc} (hs : P.underlying src = some d) (hd : P.underlying dst = some .string) (s : ByteArray) (w : World) : (convert src dst (.string s)).run P w = .ok (.string s) w := by
  cases d <;> simp [convert, run_underlying hs, run_underlying hd]

theorem TK.ok_some {P : Program} {t : TypeId} {ti : TI} (h : ti.ok P t) : ∃ d, P.underlying t = some d := by
  obtain ⟨d, h1, _⟩ := h.d
  exact ⟨d, h1⟩

theorem run_convert_intk {P : Program} {src dst : TypeId} {d : TypeDesc} {k : IntKind} (hs : P.underlying src = some d) (hd : P.underlying dst = some (.int k)) (k0 : IntKind) (n : Int) (w : World) : (convert src dst (.int k0 n)).run P w = .ok (.int k (k.wrap n)) w := by
  cases d <;> simp [convert, run_underlying hs, run_underlying hd, Conv.intToInt]

theorem byte_news {m : Me} {y : Value} {n : Nat} {g : Nat → List LV} {news : List Value} {sz : Nat} (h : RowAt m y sz n g news) {l : List UInt8} (hl : byteCells n g l) : news = l.map fun b => Value.int .u8 (b.toNat : Int) := by
  have hsz : 0 < n → sz = 1 := fun h0 => by
    obtain ⟨ys, h1, h2, _⟩ := h.elems 0 h0
    rw [hl.2 0 h0] at h1
    obtain ⟨_, r, rfl, _, hr⟩ := h1
    rw [show r = [] from hr] at h2
    exact h2.symm
  apply List.ext_getElem?
  intro j
  by_cases hj : j < n
  · have hs1 := hsz (by omega)
    subst hs1
    obtain ⟨ys, h1, h2, h3⟩ := h.elems j hj
    rw [hl.2 j hj] at h1
    obtain ⟨y, r, rfl, h4, hr⟩ := h1
    have h4 : y = .int .u8 ((l.getD j 0).toNat : Int) := h4
    subst h4
    have hjl : j < l.length := by rw [hl.1]; exact hj
    have h5 := congrArg (fun z : List Value => z[0]?) h3
    simp only [Nat.mul_one, List.getElem?_take, List.getElem?_drop, Nat.add_zero, List.getElem?_cons_zero] at h5
    rw [if_pos (by omega)] at h5
    rw [h5]
    simp [List.getD, hjl]
  · have e1 : news[j]? = none := by
      apply List.getElem?_eq_none
      rw [h.len]
      rcases Nat.eq_zero_or_pos n with h0 | h0
      · subst h0; simp
      · rw [hsz h0]; omega
    rw [e1]
    symm
    apply List.getElem?_eq_none
    rw [List.length_map, hl.1]
    omega

theorem run_bytesToString {P : Program} {src dst e : TypeId} (hs : P.underlying src = some (.slice e)) (he : P.underlying e = some (.int .u8)) (hd : P.underlying dst = some .string) {m : Me} {y : Value} {n : Nat} {g : Nat → List LV} {news : List Value} {sz : Nat} (h : RowAt m y sz n g news) {l : List UInt8} (hl : byteCells n g l) :
    (convert src dst y).run P m.w = .ok (strV l) m.w := by
  have hn := byte_news h hl
  rcases h.val with ⟨h0, rfl⟩ | ⟨a, c, rfl, hc⟩
  · have : l = [] := List.eq_nil_of_length_eq_zero (by rw [hl.1, h0])
    subst this
    simp [convert, run_underlying hs, run_underlying hd, run_underlying he, Conv.bytesToString, strV]
    rfl
  · have hlen : l.length = n := hl.1
    rcases Nat.eq_zero_or_pos n with h0 | h0
    · subst h0
      have : l = [] := List.eq_nil_of_length_eq_zero hlen
      subst this
      simp [convert, run_underlying hs, run_underlying hd, run_underlying he, Conv.bytesToString, strV, loadCells, loadCellsFrom]
      rfl
    · have hsp : a.spot = none := by
        have h1 := hc 0 (.int .u8 ((l.getD 0 0).toNat : Int)) (by rw [hn]; cases l with
          | nil => simp at hlen; omega
          | cons x r => simp)
        have h2 : a.add 0 = a := rfl
        rw [h2] at h1
        unfold World.cell? at h1
        split at h1
        · split at h1
          · cases h1
          · rename_i h3; simpa using h3
        · cases h1
      obtain ⟨b, off, sp⟩ := a
      have hsp : sp = none := hsp
      subst hsp
      have hz := run_convert_bytes_arg (P := P) m.w src e hs he b off n c (l.map fun b => (b.toNat : Int)) (by simp [hlen]) (fun i hi => by
        have h1 := hc i (.int .u8 ((l.getD i 0).toNat : Int)) (by rw [hn]; simp [List.getD, show i < l.length by omega])
        rw [add_at] at h1
        rw [h1]
        simp [List.getD, show i < l.length by omega]) dst hd
      rw [hz]
      have hm : (l.map fun b => (b.toNat : Int)).map (fun n => UInt8.ofNat n.toNat) = l := by
        rw [List.map_map]
        conv => rhs; rw [← List.map_id l]
        apply List.map_congr_left
        intro b _
        simp
      simp only [strOfNums, strV, hm]

theorem convA_sound {P : Program} {T : Tab} (hT : T.Ok P) {st : St} {m : Me} {tm : Array Value} (hs : Sim st m tm) {src dst : TypeId} {x : LV} {K : LV → Prop} {y : Value} (h : convA T st src dst x K) (hr : Rep m st.next x y) :
    ∃ r v, K r ∧ Rep m st.next r v ∧ (convert src dst y).run P m.w = .ok v m.w := by
  unfold convA at h
  split at h
  rotate_left
  · exact h.elim
  rename_i ts td hts htd
  have hos := hT.find hts
  have hod := (hT.find htd).k
  obtain ⟨d, hd⟩ := TK.ok_some hos
  split at h
  · rename_i k hk
    rw [hk] at hod
    split at h
    · rename_i k0 n
      have : y = .int k0 n := hr
      subst this
      exact ⟨_, _, h, rfl, run_convert_intk hd hod k0 n m.w⟩
    · exact h.elim
  · rename_i hk
    rw [hk] at hod
    have bytes : ∀ (x : LV), (match ts.k with
        | .slice e => match T.find e with
          | some te => match te.k with
            | .int .u8 => rowA st x fun sz n g => ∃ l, byteCells n g l ∧ K (.str l)
            | _ => False
          | none => False
        | _ => False) → Rep m st.next x y → ∃ r v, K r ∧ Rep m st.next r v ∧ (convert src dst y).run P m.w = .ok v m.w := by
      intro x h hr
      split at h
      · rename_i e hke
        have hsk := hos.k
        rw [hke] at hsk
        split at h
        · rename_i te hte
          have hek := (hT.find hte).k
          split at h
          · rename_i hkk
            rw [hkk] at hek
            obtain ⟨sz, n, g, news, ⟨l, hl, h2⟩, hrow⟩ := rowA_sound hs h hr
            exact ⟨_, _, h2, rfl, run_bytesToString hsk hek hod hrow hl⟩
          · exact h.elim
        · exact h.elim
      · exact h.elim
    split at h
    · rename_i l
      have : y = strV l := hr
      subst this
      exact ⟨_, _, h, rfl, run_convert_str hd hod _ m.w⟩
    · split at h
      · rename_i e hke
        have hsk := hos.k
        rw [hke] at hsk
        split at h
        · rename_i te hte
          have hek := (hT.find hte).k
          split at h
          · rename_i hkk
            rw [hkk] at hek
            have : y = .slice none 0 0 := hr
            subst this
            refine ⟨_, strV [], h, rfl, ?_⟩
            simp [convert, run_underlying hsk, run_underlying hod, run_underlying hek, Conv.bytesToString, strV]
            rfl
          · exact h.elim
        · exact h.elim
      · exact h.elim
    · exact bytes _ h hr
  · exact h.elim
end Go.Proofs.Aw
namespace Go.Proofs.Aw
open Go Go.RowKit

/-! ### parts of texts and of slices -/
def bndA (st : St) (o : Option Operand) (d : Int) (K : Int → Prop) : Prop := match o with
  | none => K d
  | some x => match evO st x with
    | .v (.int _ z) => K z
    | _ => False

def sliceA (T : Tab) (st : St) (t : TypeId) (x : LV) (lo hi mx : Option Operand) (k : LV → Prop) : Prop := match mx with
  | some _ => False
  | none => match T.find t with
    | none => False
    | some ti => match ti.k with
      | .str => match x with
        | .str l => bndA st lo 0 fun a => bndA st hi (l.length : Int) fun b => (0 ≤ a ∧ a ≤ b ∧ b ≤ (l.length : Int)) ∧ k (.str ((l.take b.toNat).drop a.toNat))
        | _ => False
      | .slice e => match T.find e with
        | none => False
        | some te => match x with
          | .sl sz n g => match Nat.beq sz te.size with
            | true => bndA st lo 0 fun a => bndA st hi (n : Int) fun b => (0 ≤ a ∧ a ≤ b ∧ b ≤ (n : Int)) ∧ k (.sl sz (b.toNat - a.toNat) (fun j => g (a.toNat + j)))
            | false => False
          | _ => False
      | .arr n e => match T.find e with
        | none => False
        | some te => match Nat.beq te.size 1 with
          | false => False
          | true => match x with
            | .lp o off => bndA st lo 0 fun a => bndA st hi (n : Int) fun b => (0 ≤ a ∧ a ≤ b ∧ b ≤ (n : Int) ∧ a < (n : Int)) ∧ k (.as o (off + a.toNat) (b.toNat - a.toNat))
            | _ => False
      | _ => False

theorem bndA_sound {st : St} {m : Me} {tm : Array Value} {ds : List Deferred} (hs : Sim st m tm) {o : Option Operand} {d : Int} {K : Int → Prop} (h : bndA st o d K) (ho : ∀ x, o = some x → okO tm.size x = true) :
    ∃ z, K z ∧ ((o = none ∧ z = d) ∨ ∃ x k, o = some x ∧ Act.eval ⟨tm, ds⟩ x = .int k z) := by
  unfold bndA at h
  split at h
  · exact ⟨d, h, .inl ⟨rfl, rfl⟩⟩
  · rename_i x
    split at h
    · rename_i k z hx
      have := hs.ev (ds := ds) x (ho x rfl)
      rw [hx] at this
      exact ⟨z, h, .inr ⟨x, k, rfl, this⟩⟩
    · exact h.elim

theorem run_bounds {P : Program} (isSlice : Bool) (len cap : Nat) (lo hi : Option Operand) (ev : Operand → Value) (a b : Int) (hlc : len ≤ cap)
    (hl : (lo = none ∧ a = 0) ∨ ∃ x k, lo = some x ∧ ev x = .int k a) (hh : (hi = none ∧ b = (len : Int)) ∨ ∃ x k, hi = some x ∧ ev x = .int k b) (h0 : 0 ≤ a) (h1 : a ≤ b) (h2 : b ≤ (cap : Int)) (w : World) :
    (Instr.sliceBounds isSlice len cap (lo.map ev) (hi.map ev) none).run P w = .ok (a.toNat, b.toNat, cap) w := by
  have hb0 : 0 ≤ b := by omega
  have hab : a ≤ ((b.toNat : Nat) : Int) := by omega
  rcases hl with ⟨rfl, rfl⟩ | ⟨x, k, rfl, hx⟩ <;> rcases hh with ⟨rfl, rfl⟩ | ⟨x', k', rfl, hx'⟩
  · simp [Instr.sliceBounds]
  · simp [Instr.sliceBounds, Instr.sliceBound, asIntOf, hx', hb0, h2]
  · have : a ≤ (len : Int) := h1
    simp [Instr.sliceBounds, Instr.sliceBound, asIntOf, hx, h0, this]
  · have hm : a ≤ max b 0 := by omega
    simp [Instr.sliceBounds, Instr.sliceBound, asIntOf, hx, hx', hb0, h2, h0, hab, hm]

theorem extract_take (l : List UInt8) (a b : Nat) : (⟨l.toArray⟩ : ByteArray).extract a b = ⟨((l.take b).drop a).toArray⟩ := by
  apply ByteArray.ext
  simp only [ByteArray.data_extract, List.extract_toArray]
  rw [List.extract_eq_take_drop, List.drop_take]

theorem sliceA_sound {P : Program} {T : Tab} (hT : T.Ok P) {st : St} {m : Me} {tm : Array Value} {ds : List Deferred} (hs : Sim st m tm) {t : TypeId} {x : LV} {lo hi mx : Option Operand} {k : LV → Prop} {y : Value} (h : sliceA T st t x lo hi mx k)
    (hlo : ∀ x, lo = some x → okO tm.size x = true) (hhi : ∀ x, hi = some x → okO tm.size x = true) (hr : Rep m st.next x y) :
    ∃ r v, k r ∧ Rep m st.next r v ∧ (Instr.sliceAt t y (lo.map (Act.eval ⟨tm, ds⟩)) (hi.map (Act.eval ⟨tm, ds⟩)) (mx.map (Act.eval ⟨tm, ds⟩))).run P m.w = .ok v m.w := by
  unfold sliceA at h
  split at h
  · exact h.elim
  split at h
  · exact h.elim
  rename_i ti hti
  have hok := (hT.find hti).k
  split at h
  · rename_i hk
    rw [hk] at hok
    split at h
    · rename_i l
      have hy : y = strV l := hr
      subst hy
      obtain ⟨a, h, ha⟩ := bndA_sound (ds := ds) hs h hlo
      obtain ⟨b, ⟨⟨h0, h1, h2⟩, h⟩, hb⟩ := bndA_sound (ds := ds) hs h hhi
      refine ⟨_, _, h, rfl, ?_⟩
      have hbd := run_bounds (P := P) false l.length l.length lo hi (Act.eval ⟨tm, ds⟩) a b (Nat.le_refl _) ha hb h0 h1 h2 m.w
      simp only [Instr.sliceAt, Sem.run_bind, run_underlying hok, Result.andThen_ok, Option.map_none, Instr.slice, strV, Option.isSome, Bool.false_eq_true, if_false, strV_size, hbd, Sem.run_pure, extract_take]
    · exact h.elim
  · rename_i e hk
    rw [hk] at hok
    split at h
    · exact h.elim
    rename_i te hte
    have hoe := hT.find hte
    split at h
    rotate_left
    · exact h.elim
    rename_i sz n g
    split at h
    rotate_left
    · exact h.elim
    rename_i hsz
    have hsz := Nat.eq_of_beq_eq_true hsz
    subst hsz
    obtain ⟨A, cap, rfl, hn, hc, hnil, hcell⟩ := hr
    obtain ⟨a, h, ha⟩ := bndA_sound (ds := ds) hs h hlo
    obtain ⟨b, ⟨⟨h0, h1, h2⟩, h⟩, hb⟩ := bndA_sound (ds := ds) hs h hhi
    have hbd := run_bounds (P := P) true n cap lo hi (Act.eval ⟨tm, ds⟩) a b hn ha hb h0 h1 (by omega) m.w
    have q1 : a.toNat ≤ b.toNat := by omega
    have q2 : b.toNat ≤ n := by omega
    clear ha hb h0 h1 h2
    generalize a.toNat = a at *
    generalize b.toNat = b at *
    refine ⟨_, .slice (if cap = a then A else A.map (·.add (a * te.size))) (b - a) (cap - a), h, ?_, ?_⟩
    · refine ⟨_, _, rfl, by omega, by omega, fun hA => ?_, fun h3 => ?_⟩
      · have : A = none := by
          split at hA
          · exact hA
          · simpa using hA
        have := (hnil this).2
        omega
      · obtain ⟨b', off, rfl, h5, h6, h7⟩ := hcell (by omega)
        refine ⟨b', off + a * te.size, ?_, h5, h6, fun i hi => ?_⟩
        · rw [if_neg (by omega)]
          simp [add_at]
        · obtain ⟨ys, h8, h9, h10⟩ := h7 (a + i) (by omega)
          refine ⟨ys, h8, h9, ?_⟩
          have e : off + a * te.size + i * te.size = off + (a + i) * te.size := by rw [Nat.add_mul]; omega
          rw [e]
          exact h10
    · simp only [Instr.sliceAt, Sem.run_bind, run_underlying hok, Result.andThen_ok, Option.map_none, Instr.slice, hbd, Sem.run_pure, run_sizeOf hoe]
  · rename_i nn e hk
    rw [hk] at hok
    split at h
    · exact h.elim
    rename_i te hte
    have hoe := hT.find hte
    split at h
    · exact h.elim
    rename_i hsz
    have hsz := Nat.eq_of_beq_eq_true hsz
    split at h
    rotate_left
    · exact h.elim
    rename_i o off
    obtain ⟨l1, b', l2, rfl⟩ := hr
    obtain ⟨a, h, ha⟩ := bndA_sound (ds := ds) hs h hlo
    obtain ⟨b, ⟨⟨h0, h1, h2, h3⟩, h⟩, hb⟩ := bndA_sound (ds := ds) hs h hhi
    have hbd := run_bounds (P := P) false nn nn lo hi (Act.eval ⟨tm, ds⟩) a b (Nat.le_refl _) ha hb h0 h1 h2 m.w
    refine ⟨_, .slice (some ⟨b', off + a.toNat, none⟩) (b.toNat - a.toNat) (nn - a.toNat), h, ⟨l1, b', _, l2, rfl⟩, ?_⟩
    have hne : ¬ nn = a.toNat := by omega
    simp only [Instr.sliceAt, Sem.run_bind, run_underlying hok, Result.andThen_ok, Option.map_none, Instr.sureAddr, hbd, Sem.run_pure, run_sizeOf hoe, hsz, if_neg hne, Nat.mul_one, add_at]
  · exact h.elim

/-! ### composites -/
def fillA (T : Tab) (fs : List (Nat × TypeId)) (st : St) : List LV → List (Nat × Operand) → Option (List LV)
  | cs, [] => some cs
  | cs, (i, x) :: r => match nth fs i with
    | none => none
    | some (off, t) => match T.find t, cellsA (evO st x) with
      | some ti, some xs => match Nat.beq xs.length ti.size && Nat.ble (off + xs.length) cs.length with
        | true => fillA T fs st (writeL cs off xs) r
        | false => none
      | _, _ => none

theorem foldl_set : ∀ (vs : List Value) (off j0 : Nat) (cs : List Value), off + j0 + vs.length ≤ cs.length →
    ((vs.zipIdx j0).foldl (fun (cs : Array Value) (p : Value × Nat) => cs.setIfInBounds (off + p.2) p.1) cs.toArray) = (wr cs (off + j0) vs).toArray
  | [], off, j0, cs, h => by simp [wr]
  | v :: r, off, j0, cs, h => by
    simp only [List.length_cons] at h
    have ih := foldl_set r off (j0 + 1) (cs.set (off + j0) v) (by simp; omega)
    simp only [List.zipIdx_cons, List.foldl_cons, List.setIfInBounds_toArray]
    rw [ih]
    congr 1
    apply List.ext_getElem?
    intro j
    rw [wr_get (by simp; omega), wr_get (by simp; omega)]
    by_cases h1 : off + j0 = j
    · subst h1
      rw [if_neg (by omega), if_pos (by simp), Nat.sub_self, List.getElem?_set_self (by omega)]
      rfl
    · rw [List.getElem?_set_ne h1]
      by_cases h2 : off + (j0 + 1) ≤ j ∧ j < off + (j0 + 1) + r.length
      · rw [if_pos h2, if_pos (by simp; omega)]
        have : j - (off + j0) = (j - (off + (j0 + 1))) + 1 := by omega
        rw [this]; simp
      · rw [if_neg h2, if_neg (by simp; omega)]

theorem fill_step (place : Nat → Option (Nat × Nat)) (cs : List Value) (i : Nat) (v : Value) (rest : List (Nat × Value)) (off size : Nat) (hp : place i = some (off, size)) (hv : v.cells.size = size) (hl : off + size ≤ cs.length) :
    Instr.fill place cs.toArray ((i, v) :: rest) = Instr.fill place (wr cs off v.cells.toList).toArray rest := by
  have h2 : v.cells.toList.length = size := by simpa using hv
  have := foldl_set v.cells.toList off 0 cs (by omega)
  simp only [Nat.add_zero] at this
  simp only [Instr.fill, hp]
  rw [if_neg (by simp [hv]; omega)]
  congr 1
  rw [← this]
  simp only [← Array.foldl_toList, Array.toList_zipIdx]

theorem fillA_sound {P : Program} {T : Tab} (hT : T.Ok P) {fs : List (Nat × TypeId)} {st : St} {m : Me} {tm : Array Value} {ds : List Deferred} (hs : Sim st m tm) (place : Nat → Option (Nat × Nat))
    (hp : ∀ i p ti, nth fs i = some p → T.find p.2 = some ti → place i = some (p.1, ti.size)) :
    ∀ (parts : List (Nat × Operand)) (cs cs' : List LV) (ys : List Value), fillA T fs st cs parts = some cs' → RepL m st.next cs ys → (∀ u ∈ ys, u.oneCell' = true) → (∀ p ∈ parts, okO tm.size p.2 = true) →
      ∃ ys', Instr.fill place ys.toArray (parts.map fun p => (p.1, Act.eval ⟨tm, ds⟩ p.2)) = some ys'.toArray ∧ RepL m st.next cs' ys' ∧ ∀ u ∈ ys', u.oneCell' = true
  | [], cs, cs', ys, h, hr, h1, _ => by
    simp only [fillA, Option.some.injEq] at h
    subst h
    exact ⟨ys, rfl, hr, h1⟩
  | (i, x) :: r, cs, cs', ys, h, hr, h1, ho => by
    simp only [fillA] at h
    split at h
    · cases h
    rename_i off t hn
    split at h
    rotate_left
    · cases h
    rename_i ti xs hti hx
    split at h
    rotate_left
    · cases h
    rename_i hc
    simp only [Bool.and_eq_true] at hc
    have e1 := Nat.eq_of_beq_eq_true hc.1
    have e2 := Nat.le_of_ble_eq_true hc.2
    have hev := hs.ev (ds := ds) x (ho (i, x) (by simp))
    obtain ⟨h2, h3⟩ := cellsA_sound hx hev
    have h4 := h2.length
    have h5 := hr.length
    have h6 : (Act.eval ⟨tm, ds⟩ x).cells.size = ti.size := by simp at h4; omega
    have h7 : (Act.eval ⟨tm, ds⟩ x).cells.toList.length = ti.size := by simpa using h6
    obtain ⟨ys', h8, h9, h10⟩ := fillA_sound hT hs place hp r (writeL cs off xs) cs' (wr ys off (Act.eval ⟨tm, ds⟩ x).cells.toList) h (by
      have := hr.write h2 off
      exact this) (fun u hu => by
      simp only [wr, List.mem_append] at hu
      rcases hu with (hu | hu) | hu
      · exact h1 u (List.mem_of_mem_take hu)
      · exact h3 u hu
      · exact h1 u (List.mem_of_mem_drop hu)) (fun p hp2 => ho p (by simp [hp2]))
    refine ⟨ys', ?_, h9, h10⟩
    rw [List.map_cons, fill_step place ys i _ _ off ti.size (hp i (off, t) ti hn hti) h6 (by omega)]
    exact h8
end Go.Proofs.Aw

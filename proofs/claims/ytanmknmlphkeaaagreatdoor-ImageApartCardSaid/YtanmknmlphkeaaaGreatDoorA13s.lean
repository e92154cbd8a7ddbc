/- A PART OF THE PROOF: an abstract run of the loaded code over value trees, and the functions walked by it. No condition of its own. -/
import Derived.Test.YtanmknmlphkeaaaGreatDoorA13
import Derived.Laws.CopyRow
namespace Go.Proofs.Aw
open Go Go.RowKit

/-! ### copy, from a part of one of the call's arrays to a part of another one -/
def copyA (T : Tab) (t : TypeId) (st : St) (x y : LV) (k : LV → St → Prop) : Prop := match T.find t with
  | none => False
  | some ti => match ti.k with
    | .slice e => match T.find e with
      | none => False
      | some te => match Nat.beq te.size 1 with
        | false => False
        | true => match x, y with
          | .as o off n, .as o' off' n' => match Nat.beq o o' with
            | true => False
            | false => match lookO o st.objs, lookO o' st.objs with
              | some (.box ty cs), some (.box ty' cs') => match Nat.ble (off + Nat.min n' n) cs.length && Nat.ble (off' + Nat.min n' n) cs'.length with
                | false => False
                | true => frcC (writeL cs off ((cs'.drop off').take (Nat.min n' n))) fun cs => k (.v (.int .i64 (Nat.min n' n : Nat))) (st.setO o (.box ty cs))
              | _, _ => False
          | _, _ => False
    | _ => False

theorem copyA_sound {P : Program} {T : Tab} (hT : T.Ok P) {t t' ty0 : TypeId} {org : Me} {st : St} {m : Me} {tm : Array Value} (h : Ok org st m tm) {x y : LV} {a b : Value} {k : LV → St → Prop}
    (hk : copyA T t st x y k) (ha : Rep m st.next x a) (hb : Rep m st.next y b) :
    ∃ r v st' m', (Builtin.copy_ #[t, t'] ty0 #[a, b]).run P m.w = .ok v m'.w ∧ k r st' ∧ Ok org st' m' tm ∧ Rep m' st'.next r v := by
  unfold copyA at hk
  split at hk
  · exact hk.elim
  rename_i ti hti
  have hu := (hT.find hti).k
  split at hk
  rotate_left
  · exact hk.elim
  rename_i e hke
  rw [hke] at hu
  split at hk
  · exact hk.elim
  rename_i te hte
  split at hk
  · exact hk.elim
  rename_i hsz
  have hsz := Nat.eq_of_beq_eq_true hsz
  split at hk
  rotate_left
  · exact hk.elim
  rename_i o off n o' off' n'
  split at hk
  · exact hk.elim
  rename_i hne
  have hne : o ≠ o' := fun e => by subst e; rw [beqT] at hne; cases hne
  split at hk
  rotate_left
  · exact hk.elim
  rename_i ty cs ty' cs' ho ho'
  split at hk
  · exact hk.elim
  rename_i hfit
  simp only [Bool.and_eq_true, Nat.ble_eq] at hfit
  rw [frcC_eq] at hk
  obtain ⟨inf, z, i1, i2, _⟩ := (hT.find hte).i
  obtain ⟨l1, bk, c, hbk, rfl⟩ := ha
  obtain ⟨l1', bk', c', hbk', rfl⟩ := hb
  obtain ⟨h2, ⟨b2, ys, h3, h4, h5, h6⟩, h7⟩ := h.sim.obj o _ ho
  obtain ⟨h2', ⟨b2', ys', h3', h4', h5', h6'⟩, h7'⟩ := h.sim.obj o' _ ho'
  rw [hbk] at h3
  injection h3 with h3; injection h3 with h3; injection h3 with h3 _ _
  subst h3
  rw [hbk'] at h3'
  injection h3' with h3'; injection h3' with h3'; injection h3' with h3' _ _
  subst h3'
  have hlen := h5.length
  have hlen' := h5'.length
  let vs := (ys'.drop off').take (Nat.min n' n)
  have hvl : vs.length = Nat.min n' n := by
    show ((ys'.drop off').take (Nat.min n' n)).length = _
    rw [List.length_take, List.length_drop]; omega
  have hvr : RepL m st.next ((cs'.drop off').take (Nat.min n' n)) vs := (h5'.drop off').take _
  have hv1 : ∀ u ∈ vs, u.oneCell' = true := fun u hu => h6' u (List.mem_of_mem_drop (List.mem_of_mem_take hu))
  have hsrc : ∀ j v, vs[j]? = some v → m.w.cell? ((⟨bk', off', none⟩ : Addr).add j) = some v := by
    intro j v hj
    have hj2 : j < vs.length := (List.getElem?_eq_some_iff.1 hj).1
    have : ys'[off' + j]? = some v := by
      have e : vs[j]? = ys'[off' + j]? := by
        show ((ys'.drop off').take (Nat.min n' n))[j]? = _
        rw [List.getElem?_take, if_pos (by omega), List.getElem?_drop]
      rw [← e]; exact hj
    have hc := (cellsAt_block h4' h6') (off' + j) v this
    rw [add_at]
    simpa using hc.1
  have hrun := run_copy_row (P := P) m.w t t' ty0 e bk off n c ⟨bk', off', none⟩ n' c' ys.toArray ty vs hu (by rw [i1]; simp [i2, hsz]) h4 hvl hsrc (by simp; omega) hv1
  have hf : (m.w.setRow bk (wr ys off vs).toArray).heap.size = m.w.heap.size := by simp
  have hsz' : m.w.heap.size ≤ (m.w.setRow bk (wr ys off vs).toArray).heap.size := by rw [hf]; exact Nat.le_refl _
  have hfr : Fr m (m.on (m.w.setRow bk (wr ys off vs).toArray) hsz') :=
    ⟨rfl, rfl, rfl, hsz', fun k hk1 hw => setRow_other _ _ _ _ (fun e => hw (by rw [e]; exact (h7 bk (by rw [hbk]; rfl)).1)), fun k hk => .inl hk, fun k hk => .inl hk, fun k hk _ => hk, fun _ _ => rfl, Nat.le_refl _⟩
  have hw := h.write (m.w.setRow bk (wr ys off vs).toArray) o (.box ty cs) (.box ty (writeL cs off ((cs'.drop off').take (Nat.min n' n)))) ho ⟨rfl, rfl, rfl⟩ hsz'
    (fun k hk1 hk2 => setRow_other _ _ _ _ (fun e => hk2 (by rw [hbk, e]; rfl)))
    ⟨bk, wr ys off vs, hbk, setRow_block _ _ _ _ _ _ h4, by
      have := RepL.fr hfr st.next st.next (by rw [h.sim.n]; exact Nat.le_refl _) (Nat.le_refl _) _ _ (h5.write hvr off)
      exact this, fun u hu => by
      simp only [wr, List.mem_append] at hu
      rcases hu with (hu | hu) | hu
      · exact h6 u (List.mem_of_mem_take hu)
      · exact hv1 u hu
      · exact h6 u (List.mem_of_mem_drop hu)⟩
  refine ⟨_, goInt vs.length, _, _, ?_, hk, hw.1, ?_⟩
  · rw [hrun]; rfl
  · rw [hvl]; rfl
end Go.Proofs.Aw

/- A PART OF THE PROOF: an abstract run of the loaded code over value trees, and the functions walked by it. No condition of its own. -/
import Derived.Test.YtanmknmlphkeaaaGreatDoorGZ0
import Derived.Test.YtanmknmlphkeaaaGreatDoorGZG1
import Derived.Test.YtanmknmlphkeaaaGreatDoorGA27
import Derived.Lib.Builder
import Derived.Lib.UnsafeStr
import Derived.Laws.Externs
namespace Go.Proofs
open Go Go.RowKit Go.Lib
set_option maxHeartbeats 4000000
set_option maxRecDepth 100000
theorem bcc_used (b : Nat) (w : World) (h0 : w.cell? ⟨b, 0, none⟩ = some (.pointer (some ⟨b, 0, none⟩))) :
    Calls Tryz.prog 138 #[.pointer (some ⟨b, 0, none⟩)] w fun e w' => e = .returned (.tuple #[]) ∧ w' = w := by
  obtain ⟨i0, z, hi0, hs0, _⟩ := Tryz.tiOk137.i
  have mixed := Tryz.mixed
  have u101 := run_underlying Tryz.underlying134
  have u104 := run_underlying Tryz.underlying137
  go_enter Tryz.func138, Tryz.ntmps138
  go_wp2
  rw [Lib.run_neq_ptr_same w _ Tryz.underlying134 hi0]
  go_wp2
  go_end0
  exact ⟨rfl, rfl⟩
theorem bcc_fresh (b : Nat) (w : World) (h0 : w.cell? ⟨b, 0, none⟩ = some (.pointer none)) (hsh : w.shape? b = some (137, 2)) (hfz : w.frozen? ⟨b, 0, none⟩ = false) :
    Calls Tryz.prog 138 #[.pointer (some ⟨b, 0, none⟩)] w fun e w' => e = .returned (.tuple #[]) ∧ w' = w.setCell ⟨b, 0, none⟩ (.pointer (some ⟨b, 0, none⟩)) := by
  obtain ⟨j, z, hj, hjs, _⟩ := Tryz.tiOk137.i
  have hjs : j.size = 2 := hjs
  have mixed := Tryz.mixed
  have u101 := run_underlying Tryz.underlying134
  have u104 := run_underlying Tryz.underlying137
  have u135 := run_underlying Tryz.underlying223
  go_enter Tryz.func138, Tryz.ntmps138
  go_wp2
  rw [Lib.run_to_unsafe w ⟨b, 0, none⟩ Tryz.underlying134 Tryz.underlying223 hj (by rw [hjs]; decide) hsh (Nat.zero_lt_succ 1)]
  simp only [Result.andThen]
  rw [Oper.upon_value]
  go_wp2
  rw [run_callFunc_extern Tryz.func168 (by kernel_rfl) (by kernel_rfl) (by kernel_rfl) (e := Extern.AbiNoEscape.same) (by kernel_rfl)]
  rw [Lib.run_noEscape]
  simp only [Result.andThen]
  rw [Oper.upon_value]
  go_wp2
  rw [Lib.run_from_unsafe w ⟨b, 0, none⟩ Tryz.underlying223 Tryz.underlying134 hj hsh (by kernel_rfl)]
  simp only [Result.andThen]
  rw [Oper.upon_value]
  go_wp2
  go_end0
  exact ⟨rfl, rfl⟩
end Go.Proofs
namespace Go.Proofs
open Go Go.RowKit Go.Lib
set_option maxHeartbeats 4000000
set_option maxRecDepth 100000
/-- all stays but some blocks -/
structure Aw.KBut (g : Nat → Prop) (w w' : World) : Prop where
  sys : Aw.SameSys w w'
  size : w.heap.size ≤ w'.heap.size
  keep : ∀ k, k < w.heap.size → ¬ g k → w'.heap[k]? = w.heap[k]?
theorem Aw.KBut.refl (g : Nat → Prop) (w : World) : Aw.KBut g w w := ⟨Aw.SameSys.refl w, Nat.le_refl _, fun _ _ _ => rfl⟩
theorem Aw.KBut.freeze {g : Nat → Prop} {w : World} {p : Addr} (n : Nat) (h : g p.block) : Aw.KBut g w (w.freeze p n) := by
  unfold World.freeze
  split
  · exact .refl g w
  · refine ⟨⟨rfl, rfl, rfl⟩, by simp, fun k hk hn => ?_⟩
    simp only [Array.getElem?_modify]
    rw [if_neg]
    intro e
    subst e
    exact hn h
theorem Aw.KBut.trans {g : Nat → Prop} {a b c : World} (h : Aw.KBut g a b) (k : Aw.KBut g b c) : Aw.KBut g a c :=
  ⟨⟨k.sys.1.trans h.sys.1, k.sys.2.trans h.sys.2, k.sys.3.trans h.sys.3⟩, Nat.le_trans h.size k.size, fun i hi hn => (k.keep i (Nat.lt_of_lt_of_le hi h.size) hn).trans (h.keep i hi hn)⟩
theorem Aw.KBut.drew (g : Nat → Prop) (w : World) : Aw.KBut g w w.drew := ⟨⟨rfl, rfl, rfl⟩, Nat.le_refl _, fun _ _ _ => rfl⟩
theorem Aw.KBut.alloc (g : Nat → Prop) (w : World) (o : Obj) : Aw.KBut g w (w.alloc o) := ⟨⟨rfl, rfl, rfl⟩, by simp, fun k hk _ => Aw.alloc_old w o k hk⟩

theorem bstr_row (b g cap : Nat) (p : Value) (l : List UInt8) (w : World) (h0 : l ≠ []) (hbk : w.heap[b]? = some (.cells #[p, .slice (some ⟨g, 0, none⟩) l.length cap] 137 (0, 0)))
    (hown : w.ownsRow 0 5 1 (.slice (some ⟨g, 0, none⟩) l.length cap) l.length (Lib.byteCells l)) :
    Calls Tryz.prog 88 #[.pointer (some ⟨b, 0, none⟩)] w fun e w' => e = .returned (.string ⟨l.toArray⟩) ∧ Aw.KBut (· = g) w w' := by
  have hl0 : l.length ≠ 0 := by simpa using h0
  obtain ⟨cur, hg, hnc, hcm, hcs, htake⟩ : ∃ cur, w.heap[g]? = some (.cells cur 5 (0, 0)) ∧ l.length ≤ cap ∧ cap ≤ maxLen ∧ cur.size = cap * 1 ∧ cur.toList.take (l.length * 1) = Lib.byteCells l := by
    rcases hown.2 with ⟨_, hz⟩ | ⟨g', cap', cur, hv, _, r⟩
    · exact absurd hz hl0
    · injection hv with h1 _ h2
      injection h1 with h1
      injection h1 with h1 _ _
      subst h1; subst h2
      exact ⟨cur, r⟩
  have c1 : w.drew.cell? ⟨b, 1, none⟩ = some (.slice (some ⟨g, 0, none⟩) l.length cap) := by
    have : w.drew.heap[b]? = some (.cells #[p, .slice (some ⟨g, 0, none⟩) l.length cap] 137 (0, 0)) := hbk
    rw [Lib.cell_of_heap this]; rfl
  have hSD : (Builtin.unsafeSliceData_ #[135] 197 #[.slice (some ⟨g, 0, none⟩) l.length cap]).run Tryz.prog w.drew = .ok (.pointer (some ⟨g, 0, none⟩)) w.drew :=
    Lib.run_unsafeSliceData_row _ _ _ _ _ _ (by omega)
  have hUS : (Builtin.unsafeString_ #[197, 3] 9 #[.pointer (some ⟨g, 0, none⟩), .int .i64 l.length]).run Tryz.prog w.drew = .ok (.string ⟨l.toArray⟩) (w.drew.freeze ⟨g, 0, none⟩ l.length) := by
    refine Lib.run_unsafeString_row w.drew 197 3 9 5 Tryz.underlying197 (by kernel_rfl) g cur.size (by have hg' : w.drew.heap[g]? = some (.cells cur 5 (0, 0)) := hg; simp [World.shape?, hg']) l h0 (by omega) (by unfold maxLen at hcm; omega) ?_
    intro j x hx
    have := hown.cells (g := g) rfl j (.int .u8 x.toNat) (by simp [Lib.byteCells, hx])
    exact this
  have mixed := Tryz.mixed
  have u101 := run_underlying Tryz.underlying134
  have u104 := run_underlying Tryz.underlying137
  have u102 := run_underlying Tryz.underlying135
  go_enter Tryz.func88, Tryz.ntmps88
  go_wp2
  go_region
  all_goals (go_wp2; go_ret; exact ⟨rfl, (Aw.KBut.drew _ w).trans (Aw.KBut.freeze _ rfl)⟩)
end Go.Proofs
namespace Go.Proofs
open Go Go.RowKit Go.Lib
set_option maxHeartbeats 4000000
set_option maxRecDepth 100000
theorem bus_none (W : World) (q : Option Addr) : (Builtin.unsafeString_ #[197, 3] 9 #[.pointer q, .int .i64 0]).run Tryz.prog W = .ok (.string .empty) W :=
  Lib.run_unsafeString_none W _ _ _ q
theorem bstr_nil (b : Nat) (p : Value) (w : World) (hbk : w.heap[b]? = some (.cells #[p, .slice none 0 0] 137 (0, 0))) :
    Calls Tryz.prog 88 #[.pointer (some ⟨b, 0, none⟩)] w fun e w' => e = .returned (.string ⟨#[]⟩) ∧ Aw.KBut (fun _ => False) w w' := by
  have hUS := bus_none
  have c1 : w.drew.cell? ⟨b, 1, none⟩ = some (.slice none 0 0) := by
    have : w.drew.heap[b]? = some (.cells #[p, .slice none 0 0] 137 (0, 0)) := hbk
    rw [Lib.cell_of_heap this]; rfl
  have hSD : (Builtin.unsafeSliceData_ #[135] 197 #[.slice none 0 0]).run Tryz.prog w.drew = .ok (.pointer none) w.drew := rfl
  have mixed := Tryz.mixed
  have u101 := run_underlying Tryz.underlying134
  have u104 := run_underlying Tryz.underlying137
  have u102 := run_underlying Tryz.underlying135
  go_enter Tryz.func88, Tryz.ntmps88
  go_wp2
  go_region
  all_goals (go_wp2; go_ret; exact ⟨rfl, Aw.KBut.drew _ w⟩)
theorem bstr_noroom (b g : Nat) (p : Value) (cur : Array Value) (w : World) (hbk : w.heap[b]? = some (.cells #[p, .slice (some ⟨g, 0, none⟩) 0 0] 137 (0, 0))) (hg : w.heap[g]? = some (.cells cur 5 (0, 0))) :
    Calls Tryz.prog 88 #[.pointer (some ⟨b, 0, none⟩)] w fun e w' => e = .returned (.string ⟨#[]⟩) ∧ Aw.KBut (fun _ => False) w w' := by
  have hUS := bus_none
  have hlt : b < w.heap.size := by
    rcases Nat.lt_or_ge b w.heap.size with h' | h'
    · exact h'
    · simp [Array.getElem?_eq_none h'] at hbk
  have c1 : w.drew.cell? ⟨b, 1, none⟩ = some (.slice (some ⟨g, 0, none⟩) 0 0) := by
    have : w.drew.heap[b]? = some (.cells #[p, .slice (some ⟨g, 0, none⟩) 0 0] 137 (0, 0)) := hbk
    rw [Lib.cell_of_heap this]; rfl
  have hSD : (Builtin.unsafeSliceData_ #[135] 197 #[.slice (some ⟨g, 0, none⟩) 0 0]).run Tryz.prog w.drew = .ok (.pointer (some ⟨w.drew.heap.size, 0, none⟩)) (w.drew.alloc (.view ⟨g, 0, none⟩ 5)) :=
    Lib.run_unsafeSliceData_zero w.drew _ _ 5 Tryz.underlying197 ⟨g, 0, none⟩ 0 (5, cur.size) (by have hg' : w.drew.heap[g]? = some (.cells cur 5 (0, 0)) := hg; simp [World.shape?, hg'])
  have c2 : (w.drew.alloc (.view ⟨g, 0, none⟩ 5)).cell? ⟨b, 1, none⟩ = some (.slice (some ⟨g, 0, none⟩) 0 0) := by
    have : (w.drew.alloc (.view ⟨g, 0, none⟩ 5)).heap[b]? = _ := (Lib.alloc_old w.drew _ b hlt).trans hbk
    rw [Lib.cell_of_heap this]; rfl
  have c3 : (w.alloc (.view ⟨g, 0, none⟩ 5)).drew.cell? ⟨b, 1, none⟩ = some (.slice (some ⟨g, 0, none⟩) 0 0) := c2
  have c0 : w.cell? ⟨b, 1, none⟩ = some (.slice (some ⟨g, 0, none⟩) 0 0) := c1
  have mixed := Tryz.mixed
  have u101 := run_underlying Tryz.underlying134
  have u104 := run_underlying Tryz.underlying137
  have u102 := run_underlying Tryz.underlying135
  go_enter Tryz.func88, Tryz.ntmps88
  go_wp2
  go_region
  all_goals (go_wp2; go_ret; exact ⟨rfl, (Aw.KBut.drew _ w).trans (Aw.KBut.alloc _ _ _)⟩)
theorem bstr_room (b g cap : Nat) (p : Value) (w : World) (hc0 : cap ≠ 0) (hbk : w.heap[b]? = some (.cells #[p, .slice (some ⟨g, 0, none⟩) 0 cap] 137 (0, 0))) :
    Calls Tryz.prog 88 #[.pointer (some ⟨b, 0, none⟩)] w fun e w' => e = .returned (.string ⟨#[]⟩) ∧ Aw.KBut (fun _ => False) w w' := by
  have hUS := bus_none
  have c1 : w.drew.cell? ⟨b, 1, none⟩ = some (.slice (some ⟨g, 0, none⟩) 0 cap) := by
    have : w.drew.heap[b]? = some (.cells #[p, .slice (some ⟨g, 0, none⟩) 0 cap] 137 (0, 0)) := hbk
    rw [Lib.cell_of_heap this]; rfl
  have hSD : (Builtin.unsafeSliceData_ #[135] 197 #[.slice (some ⟨g, 0, none⟩) 0 cap]).run Tryz.prog w.drew = .ok (.pointer (some ⟨g, 0, none⟩)) w.drew :=
    Lib.run_unsafeSliceData_row _ _ _ _ _ _ hc0
  clear hc0
  have mixed := Tryz.mixed
  have u101 := run_underlying Tryz.underlying134
  have u104 := run_underlying Tryz.underlying137
  have u102 := run_underlying Tryz.underlying135
  go_enter Tryz.func88, Tryz.ntmps88
  go_wp2
  go_region
  all_goals (go_wp2; go_ret; exact ⟨rfl, Aw.KBut.drew _ w⟩)
/-- String, whatever the builder holds -/
theorem bstr_any (b : Nat) (p v : Value) (l : List UInt8) (w : World) (hbk : w.heap[b]? = some (.cells #[p, v] 137 (0, 0))) (hown : w.ownsRow 0 5 1 v l.length (Lib.byteCells l)) :
    Calls Tryz.prog 88 #[.pointer (some ⟨b, 0, none⟩)] w fun e w' => e = .returned (.string ⟨l.toArray⟩) ∧ Aw.KBut (fun k => v.ownBlock = some k) w w' := by
  have weak : ∀ {g g' : Nat → Prop} {w w' : World}, (∀ k, g k → g' k) → Aw.KBut g w w' → Aw.KBut g' w w' := fun h k => ⟨k.sys, k.size, fun i hi hn => k.keep i hi fun h2 => hn (h i h2)⟩
  by_cases h0 : l = []
  · subst h0
    rcases hown.2 with ⟨e1, _⟩ | ⟨g, cap, cur, e1, _, hg, _⟩
    · subst e1
      exact (bstr_nil b p w hbk).mono fun e w' h => ⟨h.1, weak (fun _ h => h.elim) h.2⟩
    · subst e1
      by_cases hc : cap = 0
      · subst hc
        exact (bstr_noroom b g p cur w hbk hg).mono fun e w' h => ⟨h.1, weak (fun _ h => h.elim) h.2⟩
      · exact (bstr_room b g cap p w hc hbk).mono fun e w' h => ⟨h.1, weak (fun _ h => h.elim) h.2⟩
  · rcases hown.2 with ⟨_, e1⟩ | ⟨g, cap, cur, e1, _, hg, _⟩
    · exact absurd (List.eq_nil_of_length_eq_zero e1) h0
    · subst e1
      exact (bstr_row b g cap p l w h0 hbk hown).mono fun e w' h => ⟨h.1, weak (fun k h => by simp [Value.ownBlock, h]) h.2⟩
end Go.Proofs
namespace Go.Proofs.Aw
open Go Go.Proofs Go.RowKit
set_option maxHeartbeats 4000000
set_option maxRecDepth 100000
theorem Ok.lose {org : Me} {st : St} {m : Me} {tm : Array Value} (h : Ok org st m tm) (w' : World) (p : Nat) (ob : LO) (hp : lookO p st.objs = some ob)
    (hsys : SameSys m.w w') (hsz : m.w.heap.size ≤ w'.heap.size) (hkeep : ∀ k, k < m.w.heap.size → blkOf (m.b p) ≠ some k → w'.heap[k]? = m.w.heap[k]?) :
    Ok org ⟨st.env, eraseO p st.objs, st.next, st.low⟩ (m.on w' hsz) tm := by
  have hn := h.sim.n
  have hp3 := h.sim.obj p ob hp
  have hf : Fr m (m.on w' hsz) := ⟨hsys.os, hsys.tape, hsys.output, hsz, fun k hk hw => hkeep k hk fun e => hw (hp3.2.2 k e).1, fun k hk => .inl hk, fun k hk => .inl hk, fun k hk _ => hk, fun _ _ => rfl, Nat.le_refl _⟩
  have look : ∀ o x, lookO o (eraseO p st.objs) = some x → o ≠ p ∧ lookO o st.objs = some x := fun o x hx => by
    rw [lookO_erase] at hx
    split at hx
    · cases hx
    · rename_i hne; exact ⟨hne, hx⟩
  refine ⟨⟨hn, fun k hk => Rep.fr hf st.next st.next (by omega) (Nat.le_refl _) _ _ (h.sim.env k hk), fun o2 ob2 h2 => ?_, fun o2 o3 a b h2 h3 h4 k hk => ?_⟩, h.fr.trans hf, h.low⟩
  · obtain ⟨hne, h2⟩ := look _ _ h2
    obtain ⟨h5, h6, h7⟩ := h.sim.obj o2 ob2 h2
    exact ⟨h5, RepO.fr hf st.next st.next (by omega) (Nat.le_refl _) h6 fun k hk => hkeep k (h7 k hk).2 fun e2 => h.sim.apart o2 p ob2 ob h2 hp hne k hk e2, fun k hk => ⟨(h7 k hk).1, Nat.lt_of_lt_of_le (h7 k hk).2 hsz⟩⟩
  · exact h.sim.apart o2 o3 a b (look _ _ h2).2 (look _ _ h3).2 h4 k hk

theorem setCell_heap (w : World) (b : Nat) (q p v : Value) (T : TypeId) (h : w.heap[b]? = some (.cells #[p, v] T (0, 0))) : (w.setCell ⟨b, 0, none⟩ q).heap[b]? = some (.cells #[q, v] T (0, 0)) := by
  simp [World.setCell, Array.getElem?_modify, h]

/-- copyCheck: behind it the builder holds its own address -/
theorem cc_ca {o : Nat} {ad x : LV} (had : ad = .v (.pointer none) ∨ ad = .lp o 0) {st : St} (ho : lookO o st.objs = some (.box 137 [ad, x])) {K : LV → St → Prop} {kp : Value → St → Prop}
    (hk : K (.tup []) (st.setO o (.box 137 [.lp o 0, x]))) : CallA Tryz.prog 138 [.lp o 0] K kp st := by
  refine ⟨ft138.ok, fun org m tm vs h hargs => ?_⟩
  obtain ⟨y, r, rfl, e1, e2⟩ := hargs
  have e2 : r = [] := e2
  subst e2
  obtain ⟨l1, b, hb, rfl⟩ := e1
  obtain ⟨l2, ⟨b', ys, hb', hbk, hr, h1⟩, h3⟩ := h.sim.obj o _ ho
  rw [hb] at hb'
  injection hb' with hb'; injection hb' with hb'; injection hb' with hb' _ _
  subst hb'
  obtain ⟨p, r, rfl, r1, v, r', rfl, r2, r3⟩ := hr
  have r3 : r' = [] := r3
  subst r3
  have hbk : m.w.heap[b]? = some (.cells #[p, v] 137 (0, 0)) := hbk
  have hv1 := h1 v (by simp)
  rcases had with rfl | rfl
  · have r1 : p = .pointer none := r1
    subst r1
    refine (bcc_fresh b m.w (by rw [Lib.cell_of_heap hbk]; rfl) (by simp [World.shape?, hbk]) (Lib.frozen_of_heap hbk 0)).mono fun e w' he => ?_
    obtain ⟨rfl, rfl⟩ := he
    have hsz : m.w.heap.size ≤ (m.w.setCell ⟨b, 0, none⟩ (.pointer (some ⟨b, 0, none⟩))).heap.size := by simp [World.setCell]
    have hoth : ∀ k, k < m.w.heap.size → blkOf (m.b o) ≠ some k → (m.w.setCell ⟨b, 0, none⟩ (.pointer (some ⟨b, 0, none⟩))).heap[k]? = m.w.heap[k]? := fun k hk hne => Below.heap_setCell _ _ _ _ (fun e => hne (by rw [hb, e]; rfl))
    have hf : Fr m (m.on _ hsz) := ⟨rfl, rfl, rfl, hsz, fun k hk hw => hoth k hk fun e => hw (h3 k e).1, fun k hk => .inl hk, fun k hk => .inl hk, fun k hk _ => hk, fun _ _ => rfl, Nat.le_refl _⟩
    have hw := h.write (m.w.setCell ⟨b, 0, none⟩ (.pointer (some ⟨b, 0, none⟩))) o _ (.box 137 [.lp o 0, x]) ho ⟨rfl, rfl, rfl⟩ hsz hoth
      ⟨b, [.pointer (some ⟨b, 0, none⟩), v], hb, setCell_heap _ _ _ _ _ _ hbk, ⟨_, _, rfl, ⟨l1, b, hb, rfl⟩, _, _, rfl, Rep.fr hf _ _ (by rw [h.sim.n]; exact Nat.le_refl _) (Nat.le_refl _) _ _ r2, rfl⟩, fun u hu => by
        simp only [List.mem_cons, List.not_mem_nil, or_false] at hu
        rcases hu with rfl | rfl
        · rfl
        · exact hv1⟩
    exact ⟨_, _, rfl, hw.1, .inl ⟨_, .tup [], rfl, ⟨[], rfl, rfl⟩, hk⟩⟩
  · obtain ⟨_, b2, hb2, rfl⟩ := r1
    rw [hb] at hb2
    injection hb2 with hb2; injection hb2 with hb2; injection hb2 with hb2 _ _
    subst hb2
    refine (bcc_used b m.w (by rw [Lib.cell_of_heap hbk]; rfl)).mono fun e w' he => ?_
    obtain ⟨rfl, rfl⟩ := he
    have hw := h.write m.w o _ (.box 137 [.lp o 0, x]) ho ⟨rfl, rfl, rfl⟩ (Nat.le_refl _) (fun _ _ _ => rfl)
      ⟨b, [.pointer (some ⟨b, 0, none⟩), v], hb, hbk, ⟨_, _, rfl, ⟨l1, b, hb, rfl⟩, _, _, rfl, r2, rfl⟩, h1⟩
    exact ⟨_, _, rfl, hw.1, .inl ⟨_, .tup [], rfl, ⟨[], rfl, rfl⟩, hk⟩⟩

/-- String: the bytes; the buffer is the call's own no more -/
theorem bs_ca {o p n n' : Nat} {ad : LV} {g : Nat → List LV} {l : List UInt8} {st : St} (ho : lookO o st.objs = some (.box 137 [ad, .ls p n])) (hp : lookO p st.objs = some (.arr 5 1 n' g)) (hl : byteCells n' g l)
    {K : LV → St → Prop} {kp : Value → St → Prop} (hk : K (.str l) ⟨st.env, eraseO p st.objs, st.next, st.low⟩) : CallA Tryz.prog 88 [.lp o 0] K kp st := by
  refine ⟨ft88.ok, fun org m tm vs h hargs => ?_⟩
  obtain ⟨y, r, rfl, e1, e2⟩ := hargs
  have e2 : r = [] := e2
  subst e2
  obtain ⟨l1, b, hb, rfl⟩ := e1
  obtain ⟨l2, ⟨b', ys, hb', hbk, hr, h1⟩, h3⟩ := h.sim.obj o _ ho
  rw [hb] at hb'
  injection hb' with hb'; injection hb' with hb'; injection hb' with hb' _ _
  subst hb'
  obtain ⟨pv, r, rfl, r1, v, r', rfl, r2, r3⟩ := hr
  have r3 : r' = [] := r3
  subst r3
  have hbk : m.w.heap[b]? = some (.cells #[pv, v] 137 (0, 0)) := hbk
  obtain ⟨_, rfl, A, c, hA, hls⟩ := r2
  obtain ⟨l4, ⟨xs, h4, h5, h6⟩, h7⟩ := h.sim.obj p _ hp
  have hrow : RowAt m (m.b p) 1 n' g xs := by
    refine ⟨h4.1, h5, h6, ?_⟩
    rcases h4.2 with ⟨e1, e2⟩ | ⟨gg, cap, cur, e1, _⟩
    · exact .inl ⟨e2, e1⟩
    · exact .inr ⟨⟨gg, 0, none⟩, cap, e1, fun j u hj => h4.cells (g := gg) (by rw [e1]; rfl) j u hj⟩
  have hx : xs = Lib.byteCells l := byte_news hrow hl
  rw [hx, ← hl.1] at h4
  refine (bstr_any b pv (m.b p) l m.w hbk h4).mono fun e w' he => ?_
  obtain ⟨rfl, hkb⟩ := he
  have hob : (m.b p).ownBlock = blkOf (m.b p) := by rw [hA]; exact ownBlock_blk
  exact ⟨_, _, rfl, h.lose w' p _ hp hkb.sys hkb.size (fun k hk1 hk2 => hkb.keep k hk1 fun e => hk2 (by rw [← hob]; exact e)), .inl ⟨_, .str l, rfl, rfl, hk⟩⟩
end Go.Proofs.Aw
/-! the plain law of rows of texts: reading and writing -/
namespace Go.Proofs.Aw

inductive Rd where
  | bad (e : Int)
  | ok (n size : Nat)
inductive Tx where
  | bad (e : Int)
  | ok (l : List (List UInt8))

/-- a length that bytes begin with, from the i-th byte on; n: what the bytes ahead tell -/
def rdAt : Nat → Nat → List UInt8 → Rd
  | _, _, [] => .bad 4
  | i, n, x :: r =>
    if (i = 3 ∧ 128 ≤ x.toNat) ∨ (0 < i ∧ x.toNat = 0) then .bad 3
    else if x.toNat < 128 then .ok (n + x.toNat % 128 * 2 ^ (7 * i)) (i + 1)
    else rdAt (i + 1) (n + x.toNat % 128 * 2 ^ (7 * i)) r

theorem rdAt_size : ∀ (b : List UInt8) (i n N s : Nat), rdAt i n b = .ok N s → i < s ∧ s ≤ i + b.length
  | [], i, n, N, s, h => by simp [rdAt] at h
  | x :: r, i, n, N, s, h => by
    simp only [rdAt] at h
    split at h
    · cases h
    · split at h
      · injection h with h1 h2; simp; omega
      · have := rdAt_size r _ _ _ _ h; simp; omega

def lenEnc (n : Nat) : List UInt8 := if h : n < 128 then [UInt8.ofNat n] else UInt8.ofNat (n % 128 + 128) :: lenEnc (n / 128)
termination_by n
decreasing_by omega

def rowL : List (List UInt8) → List UInt8
  | [] => []
  | s :: r => lenEnc s.length ++ s ++ rowL r

def txs : Nat → List UInt8 → Tx
  | _, [] => .ok []
  | 0, _ :: _ => .bad 0
  | f + 1, x :: b => match rdAt 0 0 (x :: b) with
    | .bad e => .bad e
    | .ok n s => if (x :: b).length < s + n then .bad 4 else match txs f ((x :: b).drop (s + n)) with
      | .bad e => .bad e
      | .ok l => .ok (((x :: b).drop s).take n :: l)
def rdT (b : List UInt8) : Tx := txs b.length b

theorem txs_fuel : ∀ (f g : Nat) (b : List UInt8), b.length ≤ f → b.length ≤ g → txs f b = txs g b
  | f, g, [], _, _ => by cases f <;> cases g <;> rfl
  | 0, _, x :: b, h, _ => by simp at h
  | _, 0, x :: b, _, h => by simp at h
  | f + 1, g + 1, x :: b, h1, h2 => by
    simp only [txs]
    split
    · rfl
    · rename_i n s hr
      have := rdAt_size _ _ _ _ _ hr
      split
      · rfl
      · rw [txs_fuel f g ((x :: b).drop (s + n)) (by rw [List.length_drop]; omega) (by rw [List.length_drop]; omega)]
theorem rdT_nil : rdT [] = .ok [] := rfl
theorem rdT_cons {b : List UInt8} (h : b ≠ []) : rdT b = match rdAt 0 0 b with
    | .bad e => .bad e
    | .ok n s => if b.length < s + n then .bad 4 else match rdT (b.drop (s + n)) with
      | .bad e => .bad e
      | .ok l => .ok ((b.drop s).take n :: l) := by
  cases b with
  | nil => exact absurd rfl h
  | cons x b =>
    show txs (b.length + 1) (x :: b) = _
    simp only [txs]
    split
    · rfl
    · rename_i n s hr
      have := rdAt_size _ _ _ _ _ hr
      split
      · rfl
      · unfold rdT
        rw [txs_fuel b.length ((x :: b).drop (s + n)).length ((x :: b).drop (s + n)) (by rw [List.length_drop]; simp; omega) (Nat.le_refl _)]

/-- texts that were read, ahead of others -/
def Tx.pre (a : List (List UInt8)) : Tx → Tx
  | .bad e => .bad e
  | .ok l => .ok (a ++ l)
theorem Tx.pre_nil (t : Tx) : t.pre [] = t := by cases t <;> rfl
theorem Tx.pre_pre (a c : List (List UInt8)) (t : Tx) : (t.pre c).pre a = t.pre (a ++ c) := by cases t <;> simp [Tx.pre]
/-- one more text is read -/
theorem rdT_step {b : List UInt8} {n s : Nat} (h : rdAt 0 0 b = .ok n s) (hl : ¬ b.length < s + n) : rdT b = (rdT (b.drop (s + n))).pre [(b.drop s).take n] := by
  have hb : b ≠ [] := by rintro rfl; simp [rdAt] at h
  rw [rdT_cons hb, h]
  simp only
  rw [if_neg hl]
  cases rdT (b.drop (s + n)) <;> rfl
theorem rdT_short {b : List UInt8} {n s : Nat} (h : rdAt 0 0 b = .ok n s) (hl : b.length < s + n) : rdT b = .bad 4 := by
  have hb : b ≠ [] := by rintro rfl; simp [rdAt] at h
  rw [rdT_cons hb, h]
  simp only
  rw [if_pos hl]
theorem rdT_bad {b : List UInt8} {e : Int} (hb : b ≠ []) (h : rdAt 0 0 b = .bad e) : rdT b = .bad e := by
  rw [rdT_cons hb, h]

/-- a length that was read is the length as it is written -/
theorem rdAt_enc : ∀ (b : List UInt8) (i n N s : Nat), rdAt i n b = .ok N s → ∃ v, N = n + v * 2 ^ (7 * i) ∧ b.take (s - i) = lenEnc v ∧ (0 < i → v ≠ 0)
  | [], i, n, N, s, h => by simp [rdAt] at h
  | x :: r, i, n, N, s, h => by
    simp only [rdAt] at h
    split at h
    · cases h
    · rename_i h1
      split at h
      · rename_i h2
        injection h with h3 h4
        refine ⟨x.toNat, by rw [← h3, Nat.mod_eq_of_lt h2], ?_, fun hi h0 => h1 (.inr ⟨hi, h0⟩)⟩
        rw [← h4, Nat.add_sub_cancel_left, lenEnc, dif_pos h2]
        simp
      · rename_i h2
        obtain ⟨v, h3, h4, h5⟩ := rdAt_enc r _ _ _ _ h
        have hs := rdAt_size _ _ _ _ _ h
        have hv := h5 (by omega)
        have hx : x.toNat < 256 := x.toNat_lt
        refine ⟨x.toNat % 128 + 128 * v, ?_, ?_, fun _ => by omega⟩
        · rw [h3, Nat.mul_add 7 i 1, Nat.pow_add, Nat.add_mul, Nat.add_assoc]
          congr 2
          rw [Nat.mul_comm 128 v, Nat.mul_assoc]
          congr 1
          exact Nat.mul_comm _ _
        · have e1 : s - i = (s - (i + 1)) + 1 := by omega
          rw [e1, List.take_succ_cons, h4, lenEnc.eq_def (x.toNat % 128 + 128 * v), dif_neg (by omega)]
          have e2 : (x.toNat % 128 + 128 * v) % 128 + 128 = x.toNat := by omega
          have e3 : (x.toNat % 128 + 128 * v) / 128 = v := by omega
          rw [e2, e3]
          simp

theorem rdT_row : ∀ (f : Nat) (b : List UInt8) (l : List (List UInt8)), b.length ≤ f → rdT b = .ok l → rowL l = b
  | f, [], l, _, h => by
    rw [rdT_nil] at h
    injection h with h
    subst h; rfl
  | 0, x :: b, l, hf, h => by simp at hf
  | f + 1, x :: b, l, hf, h => by
    rw [rdT_cons (by simp)] at h
    split at h
    · cases h
    · rename_i n s hr
      have hs := rdAt_size _ _ _ _ _ hr
      obtain ⟨v, h1, h2, _⟩ := rdAt_enc _ _ _ _ _ hr
      split at h
      · cases h
      · rename_i hl
        split at h
        · cases h
        · rename_i l' hl'
          injection h with h
          subst h
          have ih := rdT_row f _ _ (by rw [List.length_drop]; omega) hl'
          simp only [Nat.zero_add, Nat.mul_zero, Nat.pow_zero, Nat.mul_one, Nat.sub_zero] at h1 h2
          have hn : ((List.drop s (x :: b)).take n).length = n := by rw [List.length_take, List.length_drop]; omega
          simp only [rowL]
          rw [ih, hn, h1, ← h2, List.append_assoc, ← List.drop_drop, List.take_append_drop, List.take_append_drop]
end Go.Proofs.Aw

/- A PART OF THE PROOF: an abstract run of the loaded code over value trees, and the functions walked by it. No condition of its own. -/
import Derived.Test.YtanmknmlphkeaaaDoorA14
namespace Go.Proofs.Aw
open Go Go.RowKit


theorem mapM_places {P : Program} {T : Tab} (hT : T.Ok P) : ∀ (l : List Field), (∀ f ∈ l, (T.find f.type).isSome = true) → l.mapM (fun f => (P.info? f.type).map fun i => (f.offset, i.size)) = some (l.map fun f => (f.offset, match T.find f.type with | some ti => ti.size | none => 0))
  | [], _ => rfl
  | f :: r, h => by
    obtain ⟨ti, hti⟩ := Option.isSome_iff_exists.1 (h f (by simp))
    obtain ⟨i, z, h1, h2, _⟩ := (hT.find hti).i
    have ih := mapM_places hT r fun g hg => h g (by simp [hg])
    simp only [List.mapM_cons, h1, Option.map_some, ih, List.map_cons, hti, h2]
    rfl

theorem build_struct {P : Program} {T : Tab} (hT : T.Ok P) {t : TypeId} {ti : TI} (hti : T.find t = some ti) {fs : List (Nat × TypeId)} (hk : ti.k = .struct fs) (hall : fs.all (fun p => (T.find p.2).isSome) = true) {st : St} {m : Me} {tm : Array Value} {ds : List Deferred} (hs : Sim st m tm)
    {parts : List (Nat × Operand)} {cs : List LV} (h : fillA T fs st ti.zero parts = some cs) (ho : ∀ p ∈ parts, okO tm.size p.2 = true) :
    ∃ v, (Instr.build t (parts.map fun p => (p.1, Act.eval ⟨tm, ds⟩ p.2)).toArray).run P m.w = .ok v m.w ∧ Rep m st.next (.agg cs) v := by
  have hok := hT.find hti
  have h1 := hok.k
  rw [hk] at h1
  obtain ⟨a, h2, h3⟩ := h1
  obtain ⟨i, z, h4, h5, h6, h7, _⟩ := hok.i
  obtain ⟨q1, q2, q3, _⟩ := zero_rep hok h4 h7 m st.next
  have hpl := mapM_places hT a.toList (fun f hf => by
    have := List.all_eq_true.1 hall (f.offset, f.type) (by rw [← h3]; exact List.mem_map.2 ⟨f, hf, rfl⟩)
    exact this)
  obtain ⟨ys, h8, h9, h10⟩ := fillA_sound (P := P) hT (ds := ds) hs (fun i => (a.toList.map fun f => (f.offset, match T.find f.type with | some ti => ti.size | none => 0))[i]?) (fun i p ti' hp hti' => by
      rw [nth_eq, ← h3] at hp
      simp only [List.getElem?_map, Option.map_eq_some_iff] at hp
      obtain ⟨f, hf, rfl⟩ := hp
      simp only [List.getElem?_map, hf, Option.map_some]
      have hti'' : T.find f.type = some ti' := hti'
      rw [hti'']) parts ti.zero cs z.cells.toList h q1 q3 ho
  refine ⟨.agg ys.toArray, ?_, ys, rfl, h9, h10⟩
  have h8' : Instr.fill (fun i => (a.toList.map fun f => (f.offset, match T.find f.type with | some ti => ti.size | none => 0))[i]?) z.cells (parts.map fun p => (p.1, Act.eval ⟨tm, ds⟩ p.2)) = some ys.toArray := h8
  simp only [Instr.build, Sem.run_bind, typeInfo, zeroValue, program, Sem.run, h4, h7, Result.andThen_ok, Sem.run_pure, run_underlying h2]
  have hm : (Array.mapM (fun f => do Pure.pure (f.offset, ← sizeOf f.type)) a : Sem (Array (Nat × Nat))).run P m.w = .ok (a.toList.map fun f => (f.offset, match T.find f.type with | some ti => ti.size | none => 0)).toArray m.w := by
    rw [Array.mapM_eq_mapM_toList]
    have := run_places (P := P) m.w _ _ hpl
    simp [this]
  simp only [hm, Result.andThen_ok, List.getElem?_toArray, h8', Sem.run_pure]

theorem build_arr {P : Program} {T : Tab} (hT : T.Ok P) {t e n : Nat} {ti te : TI} (hti : T.find t = some ti) (hk : ti.k = .arr n e) (hte : T.find e = some te) {st : St} {m : Me} {tm : Array Value} {ds : List Deferred} (hs : Sim st m tm)
    {parts : List (Nat × Operand)} {cs : List LV} (h : fillA T (arrFs e te.size 0 n) st ti.zero parts = some cs) (ho : ∀ p ∈ parts, okO tm.size p.2 = true) :
    ∃ v, (Instr.build t (parts.map fun p => (p.1, Act.eval ⟨tm, ds⟩ p.2)).toArray).run P m.w = .ok v m.w ∧ Rep m st.next (.agg cs) v := by
  have hok := hT.find hti
  have h1 := hok.k
  rw [hk] at h1
  obtain ⟨i, z, h4, h5, h6, h7, _⟩ := hok.i
  obtain ⟨q1, q2, q3, _⟩ := zero_rep hok h4 h7 m st.next
  obtain ⟨ys, h8, h9, h10⟩ := fillA_sound (P := P) hT (ds := ds) hs (fun i => some (i * te.size, te.size)) (fun i p ti' hp hti' => by
      obtain ⟨h1, _⟩ := arrFs_get e te.size n 0 i p hp
      subst h1
      simp only [Nat.zero_add]
      have : ti' = te := by
        have h12 : T.find e = some ti' := hti'
        rw [hte] at h12
        exact (Option.some.inj h12).symm
      rw [this]) parts ti.zero cs z.cells.toList h q1 q3 ho
  refine ⟨.agg ys.toArray, ?_, ys, rfl, h9, h10⟩
  have h8' : Instr.fill (fun i => some (i * te.size, te.size)) z.cells (parts.map fun p => (p.1, Act.eval ⟨tm, ds⟩ p.2)) = some ys.toArray := h8
  simp only [Instr.build, Sem.run_bind, typeInfo, zeroValue, program, Sem.run, h4, h7, Result.andThen_ok, Sem.run_pure, run_underlying h1, run_sizeOf (hT.find hte), h8']

theorem map_arr {α β : Type} (a : Array α) (f : α → β) : a.map f = (a.toList.map f).toArray := by
  apply Array.ext'
  rw [Array.toList_map]

theorem exec_value {s : Sem Value} {P : Program} {w w' : World} {y : Value} (h : s.run P w = .ok y w') : (do Pure.pure (Next.value (← s)) : Sem Next).run P w = .ok (.value y) w' := by
  simp [h]

theorem run_makeInterface' {P : Program} {t : TypeId} {ti : TI} (h : ti.ok P t) (hp : ti.k.plain = true) (x : Value) (w : World) : (Instr.makeInterface t x).run P w = .ok (.iface t x) w := by
  have h1 := h.k
  cases hk : ti.k <;> rw [hk] at h1 hp <;> first | (cases hp) | skip
  all_goals first
    | (simp [Instr.makeInterface, run_underlying h1]; done)
    | (obtain ⟨a, h2, _⟩ := h1; simp [Instr.makeInterface, run_underlying h2])

theorem opA_sound {P : Program} {T : Tab} (hT : T.Ok P) {ds : List Deferred} {o : Oper} {k : LV → St → Prop} {kp : Value → St → Prop} {st : St} (h : opA P T o k kp st) : OpSem P ds o k kp st := by
  unfold opA at h
  split at h
  · rename_i x ho; exact semMove (.inl ho) h
  · rename_i x ho; exact semMove (.inr ho) h
  · rename_i c a b ho; exact semPick ho h
  · rename_i e ho
    split at h
    · rename_i ti hti; exact semAlloc hT hti ho h
    · exact h.elim
  · rename_i e x ho
    split at h
    · rename_i cs hc; rw [frcC_eq] at h; exact semBox hc ho h
    · exact h.elim
  · rename_i t a ho
    split at h
    · rename_i ti hti; exact semLoad hT hti ho h
    · exact h.elim
  · rename_i t a x ho
    split at h
    · rename_i ti xs hti hx
      split at h
      · rename_i hl; exact semStore hT hti hx hl ho h
      · exact h.elim
    · exact h.elim
  · -- fieldAddr
    rename_i s x f ho
    split at h
    rotate_left
    · exact h.elim
    rename_i ti hti
    split at h
    rotate_left
    · exact h.elim
    rename_i fs hk
    split at h
    rotate_left
    · exact h.elim
    rename_i p hp
    split at h
    rotate_left
    · exact h.elim
    rename_i te hte
    split at h
    rotate_left
    · exact h.elim
    rename_i h0
    refine semRead fun org m tm h1 h2 => ?_
    obtain ⟨y, b, off, h3, h4, h5⟩ := addO_sound h (h2.sim.ev (ds := ds) x (h1 x (by simp [ho, Op.operands])))
    refine ⟨y, _, h3, h5, ?_⟩
    simp only [execOp, ho, h4]
    exact exec_value (run_fieldAt (hT.find hti) hk hp (hT.find hte) h0 m.w b off)
  · -- field
    rename_i s x f ho
    split at h
    rotate_left
    · exact h.elim
    rename_i ti cs hti hx
    split at h
    rotate_left
    · exact h.elim
    rename_i fs hk
    split at h
    rotate_left
    · exact h.elim
    rename_i p hp
    split at h
    rotate_left
    · exact h.elim
    rename_i te hte
    refine semRead fun org m tm h1 h2 => ?_
    have e := h2.sim.ev (ds := ds) x (h1 x (by simp [ho, Op.operands]))
    rw [hx] at e
    obtain ⟨ys, h3, h4, h5⟩ := e
    obtain ⟨r, v, h6, h7, h8⟩ := run_field (hT.find hti) hk hp (hT.find hte) h4 h5 h m.w
    refine ⟨r, v, h6, h7, ?_⟩
    simp only [execOp, ho, h3]
    exact exec_value h8
  · -- indexAddr
    rename_i t x ix ho
    split at h
    rotate_left
    · exact h.elim
    rename_i ti ik z hti hix
    have hok := (hT.find hti).k
    split at h
    · rename_i e hk
      rw [hk] at hok
      split at h
      rotate_left
      · exact h.elim
      rename_i te hte
      split at h
      · rename_i sz n g hx
        split at h
        rotate_left
        · exact h.elim
        rename_i hsz
        have hsz := Nat.eq_of_beq_eq_true hsz
        subst hsz
        obtain ⟨⟨h0, hn⟩, h⟩ := h
        refine semRead fun org m tm h1 h2 => ?_
        have e1 := h2.sim.ev (ds := ds) x (h1 x (by simp [ho, Op.operands]))
        have e2 := h2.sim.ev (ds := ds) ix (h1 ix (by simp [ho, Op.operands]))
        rw [hx] at e1
        rw [hix] at e2
        obtain ⟨A, cap, h3, h4, h5, h6, h7⟩ := e1
        obtain ⟨b, off, rfl, h8, h9, h10⟩ := h7 (by omega)
        obtain ⟨ys, h11, h12, h13⟩ := h10 z.toNat (by omega)
        refine ⟨_, _, h, ⟨b, off + z.toNat * te.size, ys, rfl, h8, h9, h11, h13⟩, ?_⟩
        have e2 : Act.eval ⟨tm, ds⟩ ix = .int ik z := e2
        simp only [execOp, ho, h3, e2]
        exact exec_value (run_indexAt_sl hok (hT.find hte) ik z n cap h0 hn m.w b off)
      · rename_i o' n hx
        obtain ⟨⟨h0, hn⟩, h⟩ := h
        refine semRead fun org m tm h1 h2 => ?_
        have e1 := h2.sim.ev (ds := ds) x (h1 x (by simp [ho, Op.operands]))
        have e2 := h2.sim.ev (ds := ds) ix (h1 ix (by simp [ho, Op.operands]))
        rw [hx] at e1
        rw [hix] at e2
        obtain ⟨h3, h4, A, c, h5, h6⟩ := e1
        rcases h6 with ⟨_, h7⟩ | ⟨b, rfl⟩
        · omega
        · refine ⟨_, .pointer (some ⟨b, z.toNat * te.size, none⟩), h, ⟨h3, b, n, c, h5, by omega, by simp⟩, ?_⟩
          have e2 : Act.eval ⟨tm, ds⟩ ix = .int ik z := e2
          rw [h5] at h4
          simp only [execOp, ho, h4, e2]
          have := run_indexAt_sl (P := P) hok (hT.find hte) ik z n c h0 hn m.w b 0
          rw [Nat.zero_add] at this
          exact exec_value this
      · exact h.elim
    · rename_i n e hk
      rw [hk] at hok
      split at h
      rotate_left
      · exact h.elim
      rename_i te hte
      obtain ⟨⟨h0, hn⟩, h⟩ := h
      refine semRead fun org m tm h1 h2 => ?_
      have e2 := h2.sim.ev (ds := ds) ix (h1 ix (by simp [ho, Op.operands]))
      rw [hix] at e2
      obtain ⟨y, b, off, h3, h4, h5⟩ := addO_sound h (h2.sim.ev (ds := ds) x (h1 x (by simp [ho, Op.operands])))
      refine ⟨y, _, h3, h5, ?_⟩
      have e2 : Act.eval ⟨tm, ds⟩ ix = .int ik z := e2
      simp only [execOp, ho, h4, e2]
      exact exec_value (run_indexAt_arr hok (hT.find hte) ik z h0 hn m.w b off)
    · exact h.elim
  · -- index
    rename_i t x ix ho
    split at h
    rotate_left
    · exact h.elim
    rename_i ti ik z hti hix
    have hok := (hT.find hti).k
    split at h
    · rename_i hk
      rw [hk] at hok
      split at h
      rotate_left
      · exact h.elim
      rename_i l hx
      obtain ⟨⟨h0, hn⟩, h⟩ := h
      refine semRead fun org m tm h1 h2 => ?_
      have e1 := h2.sim.ev (ds := ds) x (h1 x (by simp [ho, Op.operands]))
      have e2 := h2.sim.ev (ds := ds) ix (h1 ix (by simp [ho, Op.operands]))
      rw [hx] at e1
      rw [hix] at e2
      have e1 : Act.eval ⟨tm, ds⟩ x = strV l := e1
      have e2 : Act.eval ⟨tm, ds⟩ ix = .int ik z := e2
      refine ⟨_, _, h, rfl, ?_⟩
      simp only [execOp, ho, e1, e2]
      exact exec_value (run_index_str hok ik z l h0 hn m.w)
    · rename_i n e hk
      rw [hk] at hok
      split at h
      rotate_left
      · exact h.elim
      rename_i te cs hte hx
      obtain ⟨⟨h0, hn⟩, h⟩ := h
      refine semRead fun org m tm h1 h2 => ?_
      have e1 := h2.sim.ev (ds := ds) x (h1 x (by simp [ho, Op.operands]))
      have e2 := h2.sim.ev (ds := ds) ix (h1 ix (by simp [ho, Op.operands]))
      rw [hx] at e1
      rw [hix] at e2
      obtain ⟨ys, h3, h4, h5⟩ := e1
      have e2 : Act.eval ⟨tm, ds⟩ ix = .int ik z := e2
      obtain ⟨r, v, h6, h7, h8⟩ := run_index_arr hok (hT.find hte) ik z h0 hn h4 h5 h m.w
      refine ⟨r, v, h6, h7, ?_⟩
      simp only [execOp, ho, h3, e2]
      exact exec_value h8
    · exact h.elim
  · -- slice
    rename_i t x lo hi mx ho
    refine semRead fun org m tm h1 h2 => ?_
    have e := h2.sim.ev (ds := ds) x (h1 x (by simp [ho, Op.operands]))
    obtain ⟨r, v, h3, h4, h5⟩ := sliceA_sound (P := P) hT (ds := ds) h2.sim h (fun y hy => h1 y (by simp [ho, Op.operands, hy])) (fun y hy => h1 y (by simp [ho, Op.operands, hy])) e
    refine ⟨r, v, h3, h4, ?_⟩
    simp only [execOp, ho]
    exact exec_value h5
  · -- build
    rename_i t parts ho
    have hop : ∀ {tm : Array Value}, (∀ x ∈ o.op.operands.toList, okO tm.size x = true) → ∀ p ∈ parts.toList, okO tm.size p.2 = true := fun h1 p hp => h1 p.2 (by
      simp only [ho, Op.operands, List.mem_map]
      exact ⟨p, hp, rfl⟩)
    split at h
    rotate_left
    · exact h.elim
    rename_i ti hti
    split at h
    · rename_i fs hk
      split at h
      rotate_left
      · exact h.elim
      rename_i hall
      split at h
      rotate_left
      · exact h.elim
      rename_i cs hcs
      refine semRead fun org m tm h1 h2 => ?_
      obtain ⟨v, h3, h4⟩ := build_struct hT hti hk hall (ds := ds) h2.sim hcs (hop h1)
      refine ⟨_, v, h, h4, ?_⟩
      simp only [execOp, ho]
      have : (parts.map fun (p : Nat × Operand) => (p.1, Act.eval ⟨tm, ds⟩ p.2)) = (parts.toList.map fun p => (p.1, Act.eval ⟨tm, ds⟩ p.2)).toArray := map_arr _ _
      rw [← this] at h3
      exact exec_value h3
    · rename_i n e hk
      split at h
      rotate_left
      · exact h.elim
      rename_i te hte
      split at h
      rotate_left
      · exact h.elim
      rename_i cs hcs
      refine semRead fun org m tm h1 h2 => ?_
      obtain ⟨v, h3, h4⟩ := build_arr hT hti hk hte (ds := ds) h2.sim hcs (hop h1)
      refine ⟨_, v, h, h4, ?_⟩
      simp only [execOp, ho]
      have : (parts.map fun (p : Nat × Operand) => (p.1, Act.eval ⟨tm, ds⟩ p.2)) = (parts.toList.map fun p => (p.1, Act.eval ⟨tm, ds⟩ p.2)).toArray := map_arr _ _
      rw [← this] at h3
      exact exec_value h3
    · exact h.elim
  · -- buildSlice
    rename_i t n parts ho
    refine OpSem.val fun org m tm h1 h2 => ?_
    obtain ⟨r, v, st', m', h3, h4, h5, h6⟩ := buildSliceA_sound (P := P) hT (ds := ds) h2 h (fun p hp => h1 p.2 (by
      simp only [ho, Op.operands, List.mem_map]
      exact ⟨p, hp, rfl⟩))
    refine ⟨v, r, st', m', ?_, h4, h5, h6⟩
    simp only [execOp, ho]
    have : (parts.map fun (p : Nat × Operand) => (p.1, Act.eval ⟨tm, ds⟩ p.2)) = (parts.toList.map fun p => (p.1, Act.eval ⟨tm, ds⟩ p.2)).toArray := map_arr _ _
    rw [← this] at h3
    exact exec_value h3
  · -- binOp
    rename_i op t x y yt ho
    refine semRead fun org m tm h1 h2 => ?_
    have e1 := h2.sim.ev (ds := ds) x (h1 x (by simp [ho, Op.operands]))
    have e2 := h2.sim.ev (ds := ds) y (h1 y (by simp [ho, Op.operands]))
    obtain ⟨r, v, h3, h4, h5⟩ := binA_sound (P := P) hT h2.sim h e1 e2 x y
    refine ⟨r, v, h3, h4, ?_⟩
    simp only [execOp, ho]
    exact exec_value h5
  · -- unOp
    rename_i op t x ho
    refine semRead fun org m tm h1 h2 => ?_
    have e1 := h2.sim.ev (ds := ds) x (h1 x (by simp [ho, Op.operands]))
    obtain ⟨r, v, h3, h4, h5⟩ := unA_sound (P := P) h e1 m.w
    refine ⟨r, v, h3, h4, ?_⟩
    simp only [execOp, ho]
    exact exec_value h5
  · -- convert
    rename_i s d x ho
    refine semRead fun org m tm h1 h2 => ?_
    have e1 := h2.sim.ev (ds := ds) x (h1 x (by simp [ho, Op.operands]))
    obtain ⟨r, v, h3, h4, h5⟩ := convA_sound (P := P) hT h2.sim h e1
    refine ⟨r, v, h3, h4, ?_⟩
    simp only [execOp, ho]
    exact exec_value h5
  · -- extract
    rename_i t i ho
    split at h
    rotate_left
    · exact h.elim
    rename_i cs hx
    split at h
    rotate_left
    · exact h.elim
    rename_i x hn
    refine semRead fun org m tm h1 h2 => ?_
    have e1 := h2.sim.ev (ds := ds) t (h1 t (by simp [ho, Op.operands]))
    rw [hx] at e1
    obtain ⟨ys, h3, h4⟩ := e1
    rw [nth_eq] at hn
    obtain ⟨y, h5, h6⟩ := h4.get i x hn
    refine ⟨x, y, h, h6, ?_⟩
    simp only [execOp, ho, h3]
    exact exec_value (by simp [Instr.extract, h5])
  · -- makeInterface
    rename_i t x ho
    split at h
    rotate_left
    · exact h.elim
    rename_i ti v hti hv
    split at h
    rotate_left
    · exact h.elim
    rename_i hp
    refine semRead fun org m tm h1 h2 => ?_
    have e1 := h2.sim.ev (ds := ds) x (h1 x (by simp [ho, Op.operands]))
    have e2 := LV.val_sound hv e1
    refine ⟨_, _, h, rfl, ?_⟩
    simp only [execOp, ho, e2]
    exact exec_value (run_makeInterface' (hT.find hti) hp v m.w)
  · -- makeFunc
    rename_i fn a b ho
    refine semRead fun org m tm h1 h2 => ?_
    have e1 := evL (ds := ds) h2.sim a.toList (fun x hx => h1 x (by simp [ho, Op.operands] at hx ⊢; exact .inl hx))
    have e2 := evL (ds := ds) h2.sim b.toList (fun x hx => h1 x (by simp [ho, Op.operands] at hx ⊢; exact .inr hx))
    refine ⟨_, .func fn (a.map (Act.eval ⟨tm, ds⟩)) (b.map (Act.eval ⟨tm, ds⟩)), h, ⟨_, _, by rw [map_arr a, map_arr b], e1, e2⟩, ?_⟩
    simp only [execOp, ho]
    exact exec_value rfl
  · -- makeSlice
    rename_i t l c ho
    refine OpSem.val fun org m tm h1 h2 => ?_
    have e1 := h2.sim.ev (ds := ds) l (h1 l (by simp [ho, Op.operands]))
    have e2 := h2.sim.ev (ds := ds) c (h1 c (by simp [ho, Op.operands]))
    obtain ⟨r, v, st', m', h3, h4, h5, h6⟩ := makeSliceA_sound hT h2 h e1 e2
    refine ⟨v, r, st', m', ?_, h4, h5, h6⟩
    simp only [execOp, ho]
    exact exec_value h3
  · -- nilCheck
    rename_i x ho
    have key : ∀ (r : LV), evO st x = r → (∀ (m : Me) (y : Value), Rep m st.next r y → ∃ a, y = .pointer (some a)) → k r st → OpSem P ds o k kp st := fun r hx hr hk => semRead fun org m tm h1 h2 => by
      have e1 := h2.sim.ev (ds := ds) x (h1 x (by simp [ho, Op.operands]))
      rw [hx] at e1
      obtain ⟨a, ha⟩ := hr m _ e1
      refine ⟨r, _, hk, e1, ?_⟩
      simp only [execOp, ho, ha]
      rfl
    split at h
    · rename_i o' off hx; exact key _ hx (fun m y hy => by obtain ⟨_, b, _, rfl⟩ := hy; exact ⟨_, rfl⟩) h
    · rename_i o' sz i off hx; exact key _ hx (fun m y hy => by obtain ⟨_, b, n, c, _, _, rfl⟩ := hy; exact ⟨_, rfl⟩) h
    · rename_i cs off hx; exact key _ hx (fun m y hy => by obtain ⟨b, o, ys, rfl, _⟩ := hy; exact ⟨_, rfl⟩) h
    · exact h.elim
  · -- panic
    rename_i x ho
    split at h
    rotate_left
    · exact h.elim
    rename_i t v hx
    intro org m tm h1 h2 next Q hn hp
    have e1 := h2.sim.ev (ds := ds) x (h1 x (by simp [ho, Op.operands]))
    rw [hx] at e1
    have e1 : Act.eval ⟨tm, ds⟩ x = .iface t v := e1
    have hrun : (execOp (Act.eval ⟨tm, ds⟩) o).run P m.w = .halt (.panic (.iface t v)) m.w := by
      simp [execOp, ho, e1, Instr.panic, goPanic, Sem.run]
    unfold Oper.wp
    rw [hrun]
    exact hp _ _ m h h2
  · -- call
    rename_i c ho
    unfold callA at h
    split at h
    · -- a built-in
      rename_i b hc
      have hops : ∀ {tm : Array Value}, (∀ x ∈ o.op.operands.toList, okO tm.size x = true) → ∀ x ∈ c.args.toList, okO tm.size x = true := fun h1 x hx => h1 x (by
        simp [ho, Op.operands, Call.operands, hc]; exact Array.mem_toList_iff.1 hx)
      have hargs : ∀ {org m tm}, (∀ x ∈ o.op.operands.toList, okO tm.size x = true) → Ok org st m tm → RepL m st.next (c.args.toList.map (evO st)) (c.args.toList.map (Act.eval ⟨tm, ds⟩)) := fun h1 h2 => evL h2.sim _ (hops h1)
      have hrun : ∀ (tm : Array Value) (w w' : World) (y : Value) (f : Array TypeId → TypeId → Array Value → Sem Value), (f c.argTypes o.type (c.args.map (Act.eval ⟨tm, ds⟩))).run P w = .ok y w' →
          (∀ (consts : Array Bool), builtin b c.argTypes o.type consts (c.args.map (Act.eval ⟨tm, ds⟩)) = (do Pure.pure (Next.value (← f c.argTypes o.type (c.args.map (Act.eval ⟨tm, ds⟩)))) : Sem Next)) → (execOp (Act.eval ⟨tm, ds⟩) o).run P w = .ok (.value y) w' := by
        intro tm w w' y f h1 h2
        simp only [execOp, ho, resolve, hc, Sem.run_bind, Sem.run_pure, Result.andThen_ok, invoke, h2, h1]
      unfold builtinA at h
      split at h
      · -- len
        rename_i t x hts hxs
        refine semRead fun org m tm h1 h2 => ?_
        have e := hargs h1 h2
        rw [hxs] at e
        obtain ⟨y, r, he, e1, e2⟩ := e
        have e2 : r = [] := e2
        subst e2
        have hargs' : c.args.map (Act.eval ⟨tm, ds⟩) = #[y] := by rw [map_arr, he]
        have hts' : c.argTypes = #[t] := by rw [← Array.toArray_toList (xs := c.argTypes), hts]
        obtain ⟨r, v, h3, h4, h5⟩ := lenA_sound (P := P) hT (ty := o.type) h e1 m.w
        exact ⟨r, v, h3, h4, hrun tm m.w m.w v Builtin.len_ (by rw [hargs', hts']; exact h5) (fun _ => rfl)⟩
      · -- append
        rename_i t t' x y hts hxs
        have key : (∀ {org : Me} {m : Me} {tm : Array Value} {a b' : Value}, Ok org st m tm → Rep m st.next x a → Rep m st.next y b' → ∃ r v st' m', (Builtin.append_ #[t, t'] o.type #[a, b']).run P m.w = .ok v m'.w ∧ k r st' ∧ Ok org st' m' tm ∧ Rep m' st'.next r v) := by
          intro org m tm a b' h2 e1 e2
          split at h
          · rename_i htt
            have htt := Nat.eq_of_beq_eq_true htt
            subst htt
            exact appendA_sound (ty := o.type) hT h2 h e1 e2
          · exact appendS_sound (ty := o.type) hT h2 h e1 e2
        refine OpSem.val fun org m tm h1 h2 => ?_
        have e := hargs h1 h2
        rw [hxs] at e
        obtain ⟨a, r, he, e1, b', r', rfl, e2, e3⟩ := e
        have e3 : r' = [] := e3
        subst e3
        have hargs' : c.args.map (Act.eval ⟨tm, ds⟩) = #[a, b'] := by rw [map_arr, he]
        have hts' : c.argTypes = #[t, t'] := by rw [← Array.toArray_toList (xs := c.argTypes), hts]
        obtain ⟨r, v, st', m', h3, h4, h5, h6⟩ := key h2 e1 e2
        exact ⟨v, r, st', m', hrun tm m.w m'.w v Builtin.append_ (by rw [hargs', hts']; exact h3) (fun _ => rfl), h4, h5, h6⟩
      · -- min
        rename_i x y hxs
        unfold minA at h
        split at h
        rotate_left
        · exact h.elim
        rename_i k1 a1 k2 a2
        refine semRead fun org m tm h1 h2 => ?_
        have e := hargs h1 h2
        rw [hxs] at e
        obtain ⟨a, r, he, e1, b', r', rfl, e2, e3⟩ := e
        have e3 : r' = [] := e3
        subst e3
        have e1 : a = .int k1 a1 := e1
        have e2 : b' = .int k2 a2 := e2
        subst e1; subst e2
        have hargs' : c.args.map (Act.eval ⟨tm, ds⟩) = #[.int k1 a1, .int k2 a2] := by rw [map_arr, he]
        exact ⟨_, _, h, rfl, hrun tm m.w m.w _ Builtin.min_ (by rw [hargs']; simp [Builtin.min_, Builtin.min2]) (fun _ => rfl)⟩
      · -- max
        rename_i x y hxs
        unfold maxA at h
        split at h
        rotate_left
        · exact h.elim
        rename_i k1 a1 k2 a2
        refine semRead fun org m tm h1 h2 => ?_
        have e := hargs h1 h2
        rw [hxs] at e
        obtain ⟨a, r, he, e1, b', r', rfl, e2, e3⟩ := e
        have e3 : r' = [] := e3
        subst e3
        have e1 : a = .int k1 a1 := e1
        have e2 : b' = .int k2 a2 := e2
        subst e1; subst e2
        have hargs' : c.args.map (Act.eval ⟨tm, ds⟩) = #[.int k1 a1, .int k2 a2] := by rw [map_arr, he]
        exact ⟨_, _, h, rfl, hrun tm m.w m.w _ Builtin.max_ (by rw [hargs']; simp [Builtin.max_, Builtin.max2]) (fun _ => rfl)⟩
      · exact h.elim
    · rename_i f hc
      have hf : ∀ {tm : Array Value}, (∀ x ∈ o.op.operands.toList, okO tm.size x = true) → okO tm.size f = true := fun h1 => h1 f (by
        simp [ho, Op.operands, Call.operands, hc])
      have hops : ∀ {tm : Array Value}, (∀ x ∈ o.op.operands.toList, okO tm.size x = true) → ∀ x ∈ c.args.toList, okO tm.size x = true := fun h1 x hx => h1 x (by
        simp [ho, Op.operands, Call.operands, hc]; exact .inr (Array.mem_toList_iff.1 hx))
      have hargs : ∀ {org m tm}, (∀ x ∈ o.op.operands.toList, okO tm.size x = true) → Ok org st m tm → RepL m st.next (c.args.toList.map (evO st)) (c.args.toList.map (Act.eval ⟨tm, ds⟩)) := fun h1 h2 => evL h2.sim _ (hops h1)
      have go : ∀ (n : FuncId) (args : List LV), CallA P n args k kp st → (∀ org m tm, (∀ x ∈ o.op.operands.toList, okO tm.size x = true) → Ok org st m tm → ∃ vs, RepL m st.next args vs ∧ (execOp (Act.eval ⟨tm, ds⟩) o).run P m.w = (callFunc n vs.toArray).run P m.w) → OpSem P ds o k kp st := by
        intro n args hcall hex org m tm h1 h2 next Q hn hp
        obtain ⟨vs, h3, h4⟩ := hex org m tm h1 h2
        obtain ⟨hfn, hcall⟩ := hcall
        unfold Oper.wp
        rw [h4, hfn]
        refine (hcall org m tm vs h2 h3).mono ?_
        rintro e w' ⟨st', m', rfl, h5, h6⟩
        rcases h6 with ⟨y, x, rfl, h7, h8⟩ | ⟨x, rfl, h8⟩
        · exact hn y x st' m' h8 h5 h7
        · exact hp x st' m' h8 h5
      split at h
      · rename_i n a b hx
        split at h
        rotate_left
        · exact h.elim
        rename_i ha hb
        have ha : a = #[] := by rw [← Array.toArray_toList (xs := a), ha]
        have hb : b = #[] := by rw [← Array.toArray_toList (xs := b), hb]
        subst ha; subst hb
        rw [frcC_eq] at h
        refine go n _ h fun org m tm h1 h2 => ⟨_, hargs h1 h2, ?_⟩
        have e := h2.sim.ev (ds := ds) f (hf h1)
        rw [hx] at e
        have e : Act.eval ⟨tm, ds⟩ f = .func (.func n) #[] #[] := e
        simp only [execOp, ho, resolve, hc, Sem.run_bind, Deferred.ofValue, e, Sem.run_pure, Result.andThen_ok, invoke, Array.append_empty, Array.empty_append, map_arr c.args]
      · rename_i n a b hx
        rw [frcC_eq] at h
        refine go n _ h fun org m tm h1 h2 => ?_
        have e := h2.sim.ev (ds := ds) f (hf h1)
        rw [hx] at e
        obtain ⟨fs, cs, e1, e2, e3⟩ := e
        refine ⟨fs ++ (c.args.toList.map (Act.eval ⟨tm, ds⟩) ++ cs), e2.append ((hargs h1 h2).append e3), ?_⟩
        simp only [execOp, ho, resolve, hc, Sem.run_bind, Deferred.ofValue, e1, Sem.run_pure, Result.andThen_ok, invoke, map_arr c.args]
        simp
      · exact h.elim
    · exact h.elim
  · exact h.elim

end Go.Proofs.Aw

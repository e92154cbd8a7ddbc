/- A PART OF THE PROOF: an abstract run of the loaded code over value trees, and the functions walked by it. No condition of its own. -/
import Derived.Test.YtanmknmlphkeaaaDoorA21
namespace Go.Proofs.Aw
open Go Go.RowKit

/-! ### behind a call: what it made is kept for good -/
def Me.free (m : Me) (D : Nat → Prop) : Me where
  w := m.w
  b := m.b
  vo := fun k => m.vo k ∧ ¬ D k
  wr := fun k => m.wr k ∧ ¬ D k
  n := m.n
  sub := fun k h => ⟨m.sub k h.1, h.2⟩
  lt := fun k h => m.lt k h.1
theorem Fr.free {m : Me} {D : Nat → Prop} (hD : ∀ k, D k → m.wr k) : Fr m (m.free D) :=
  ⟨rfl, rfl, rfl, Nat.le_refl _, fun _ _ _ => rfl, fun _ h => .inl h.1, fun _ h => .inl h.1, fun k h hn => ⟨h, fun hd => hn (hD k hd)⟩, fun _ _ => rfl, Nat.le_refl _⟩

def keepO (N : Nat) : List (Nat × LO) → List (Nat × LO)
  | [] => []
  | (o, x) :: r => match Nat.blt o N with
    | true => (o, x) :: keepO N r
    | false => keepO N r
def keepU (N : Nat) : List (Nat × LO) → Bool
  | [] => true
  | (_, x) :: r => x.under N && keepU N r
theorem lookO_keepO {N o : Nat} {ob : LO} : ∀ {l}, lookO o (keepO N l) = some ob → o < N ∧ lookO o l = some ob
  | [], h => by simp [keepO, lookO] at h
  | (j, x) :: r, h => by
    simp only [keepO] at h
    by_cases e : o = j
    · subst e
      cases hb : Nat.blt o N with
      | true =>
        simp only [hb, lookO, beqT] at h
        exact ⟨by rwa [Nat.blt_eq] at hb, by simpa [lookO] using h⟩
      | false =>
        simp only [hb] at h
        have := (lookO_keepO h).1
        rw [← Nat.blt_eq, hb] at this; cases this
    · simp only [lookO, beqF e]
      cases hb : Nat.blt j N with
      | true => simp only [hb, lookO, beqF e] at h; exact lookO_keepO h
      | false => simp only [hb] at h; exact lookO_keepO h
theorem keepU_look {N o : Nat} {ob : LO} : ∀ {l}, keepU N l = true → lookO o l = some ob → ob.under N = true
  | [], _, h => by simp [lookO] at h
  | (j, x) :: r, hu, h => by
    simp only [keepU, Bool.and_eq_true] at hu
    by_cases e : o = j
    · subst e; simp only [lookO, beqT, Option.some.injEq] at h; subst h; exact hu.1
    · simp only [lookO, beqF e] at h; exact keepU_look hu.2 h

mutual
def LV.fresh (N : Nat) : LV → Bool
  | .ls o _ => Nat.ble N o
  | .agg cs => freshL N cs
  | .tup cs => freshL N cs
  | _ => true
def freshL (N : Nat) : List LV → Bool
  | [] => true
  | x :: xs => x.fresh N && freshL N xs
end

mutual
theorem fz_fresh {st : St} {m : Me} {tm : Array Value} (hs : Sim st m tm) {vo : Nat → Prop} (lt : ∀ k, vo k → k < m.w.heap.size) {N : Nat} (hvo : ∀ k, vo k → m.vo k) (hD : ∀ o ob k, N ≤ o → lookO o st.objs = some ob → blkOf (m.b o) = some k → ¬ vo k) : ∀ (x : LV) (y : Value), Rep m st.next x y → x.fresh N = true → (fz st.objs x).under 0 = true → Rep (Me.base m.w vo lt) 0 (fz st.objs x) y
  | .any, _, _, _, _ => trivial
  | .v _, _, h, _, _ => h
  | .bs _, _, h, _, _ => h
  | .str _, _, h, _, _ => h
  | .agg cs, y, h, hf, hu => by
    obtain ⟨ys, rfl, h1, h2⟩ := h
    exact ⟨ys, rfl, fzL_fresh hs lt hvo hD cs ys h1 (by simpa [LV.fresh] using hf) (by simpa [fz, LV.under] using hu), h2⟩
  | .tup cs, y, h, hf, hu => by
    obtain ⟨ys, rfl, h1⟩ := h
    exact ⟨ys, rfl, fzL_fresh hs lt hvo hD cs ys h1 (by simpa [LV.fresh] using hf) (by simpa [fz, LV.under] using hu)⟩
  | .sl sz n g, y, h, _, hu => closed (m := m) (m' := Me.base m.w vo lt) rfl hvo (.sl sz n g) y (Rep.down _ _ rfl h)
  | .sp cs off, y, h, _, hu => closed (m := m) (m' := Me.base m.w vo lt) rfl hvo (.sp cs off) y (Rep.down _ _ rfl h)
  | .lp _ _, _, _, _, hu => by simp [fz, LV.under, Nat.blt_eq] at hu
  | .el _ _ _ _, _, _, _, hu => by simp [fz, LV.under, Nat.blt_eq] at hu
  | .ls o n, y, h, hf, hu => by
    simp only [fz] at hu ⊢
    simp only [LV.fresh, Nat.ble_eq] at hf
    split
    · rename_i ty sz n' g ho
      obtain ⟨h1, rfl, A, c, h2, h3⟩ := h
      obtain ⟨_, ⟨xs, h4, h5, h6⟩, h7⟩ := hs.obj o _ ho
      have hDo := fun k => hD o _ k hf ho
      rw [h2] at h4 ⊢
      rcases h4.2 with ⟨e1, e2⟩ | ⟨gg, cap, cur, e1, _, e3, e4, e5, e6, e7⟩
      · injection e1 with e1 e8 e9
        subst e1; subst e8; subst e9
        exact ⟨none, 0, rfl, Nat.le_refl _, by omega, fun _ => ⟨rfl, rfl⟩, fun h => absurd h (by omega)⟩
      · injection e1 with e1 e8 e9
        subst e1; subst e8; subst e9
        refine ⟨_, c, rfl, e4, by unfold maxLen at e5; omega, (by intro h; cases h), fun h0 => ⟨gg, 0, rfl, hDo gg (by rw [h2]; rfl), (h7 gg (by rw [h2]; rfl)).2, fun i hi => ?_⟩⟩
        obtain ⟨ys, h8, h9, h10⟩ := h6 i hi
        refine ⟨ys, closedL (m := m) (m' := Me.base m.w vo lt) rfl hvo (g i) ys h8, h9, ?_⟩
        rw [Nat.zero_add]
        exact cellsAt_own e3 e7 h5 hi h10
    · trivial
  | .clo _ _ _, _, h, _, hu => by
    obtain ⟨fs, cs, rfl, h1, h2⟩ := h
    simp only [fz, LV.under, Bool.and_eq_true] at hu
    exact ⟨fs, cs, rfl, closedL (m := m) (m' := Me.base m.w vo lt) rfl hvo _ _ (RepL.down _ _ hu.1 h1), closedL (m := m) (m' := Me.base m.w vo lt) rfl hvo _ _ (RepL.down _ _ hu.2 h2)⟩
theorem fzL_fresh {st : St} {m : Me} {tm : Array Value} (hs : Sim st m tm) {vo : Nat → Prop} (lt : ∀ k, vo k → k < m.w.heap.size) {N : Nat} (hvo : ∀ k, vo k → m.vo k) (hD : ∀ o ob k, N ≤ o → lookO o st.objs = some ob → blkOf (m.b o) = some k → ¬ vo k) : ∀ (xs : List LV) (ys : List Value), RepL m st.next xs ys → freshL N xs = true → underL 0 (fzL st.objs xs) = true → RepL (Me.base m.w vo lt) 0 (fzL st.objs xs) ys
  | [], _, h, _, _ => h
  | x :: xs, ys, h, hf, hu => by
    obtain ⟨y, r, rfl, h1, h2⟩ := h
    simp only [fzL, underL, Bool.and_eq_true] at hu
    simp only [freshL, Bool.and_eq_true] at hf
    exact ⟨y, r, rfl, fz_fresh hs lt hvo hD x y h1 hf.1 hu.1, fzL_fresh hs lt hvo hD xs r h2 hf.2 hu.2⟩
end

/-- behind a call: the result, all that the call made being kept for good; the caller's objects as they are now -/
def settleK (N : Nat) (k : LV → St → Prop) (x : LV) (s : St) : Prop := frc (fz s.objs x) fun y => (y.under 0 = true ∧ x.fresh N = true ∧ keepU N (keepO N s.objs) = true) ∧ frcS ⟨s.env, keepO N s.objs, N, s.low⟩ fun s => ∃ y', LV.le y y' ∧ k y' s

theorem CallA.bodyS {P : Program} {T : Tab} (hT : T.Ok P) {f : FuncId} {fn : Func} {args : List LV} (hx : FnText P f fn args.length) {k : LV → St → Prop} {kp : Value → St → Prop} {st : St}
    (h : runC P T fn.ntmps (bodyOf fn) (bodyK T fn.results.toList (settleK st.next k) kp st) (st.enter args)) : CallA P f args k kp st := by
  refine ⟨hx.ok, fun org m tm vs hO hargs => ?_⟩
  have hOm : Ok m ⟨st.env, st.objs, st.next, st.next⟩ m tm := ⟨⟨hO.sim.n, hO.sim.env, hO.sim.obj, hO.sim.apart⟩, Fr.refl m, hO.sim.n.symm⟩
  have hb := CallA.body hT hx (k := fun x s => settleK st.next k x ⟨st.env, s.objs, s.next, st.low⟩) (kp := fun x s => kp x ⟨st.env, s.objs, s.next, st.low⟩) (st := ⟨st.env, st.objs, st.next, st.next⟩) (by
    have e1 : (⟨st.env, st.objs, st.next, st.next⟩ : St).enter args = st.enter args := rfl
    have e2 : bodyK T fn.results.toList (fun x s => settleK st.next k x ⟨st.env, s.objs, s.next, st.low⟩) (fun x s => kp x ⟨st.env, s.objs, s.next, st.low⟩) ⟨st.env, st.objs, st.next, st.next⟩ = bodyK T fn.results.toList (settleK st.next k) kp st := by
      funext s x
      cases x <;> cases st <;> cases s <;> rfl
    rw [e1, e2]
    exact h)
  refine (hb.2 m m tm vs hOm hargs).mono ?_
  rintro e w' ⟨s', m', rfl, h4, h5⟩
  rcases h5 with ⟨y, x, rfl, h6, h7⟩ | ⟨x, rfl, h7⟩
  · simp only [settleK, frc_eq, frcS_eq] at h7
    obtain ⟨⟨u1, u2, u3⟩, y', hle, h7⟩ := h7
    have hN := hO.sim.n
    let D : Nat → Prop := fun k => ∃ o ob, st.next ≤ o ∧ lookO o s'.objs = some ob ∧ blkOf (m'.b o) = some k
    have hDw : ∀ k, D k → m'.wr k := fun k ⟨o, ob, h1, h2, h3⟩ => ((h4.sim.obj o ob h2).2.2 k h3).1
    have hF : Fr m' (m'.free D) := Fr.free hDw
    have hFm : Fr m (m'.free D) := h4.fr.trans hF
    have hl : org.n ≤ st.next := by have := hO.fr.n; omega
    have hFo := hO.fr.trans hFm
    refine ⟨⟨st.env, keepO st.next s'.objs, st.next, st.low⟩, (m'.free D).cut st.next, rfl, ⟨⟨rfl, fun k hk => ?_, fun o ob ho => ?_, fun o o' ob ob' h1 h2 h3 k hk => ?_⟩, ?_, hO.low⟩, .inl ⟨y, _, rfl, ?_, h7⟩⟩
    · exact Rep.cut _ _ (Rep.fr hFm st.next st.next (by omega) (Nat.le_refl _) _ _ (hO.sim.env k hk))
    · obtain ⟨h1, h2⟩ := lookO_keepO ho
      obtain ⟨q1, q2, q3⟩ := h4.sim.obj o ob h2
      refine ⟨h1, RepO.cut (RepO.down (keepU_look u3 ho) (RepO.fr hF s'.next s'.next (Nat.le_of_eq h4.sim.n.symm) (Nat.le_refl _) q2 fun _ _ => rfl)), fun k hk => ⟨⟨(q3 k hk).1, fun ⟨o', ob', d1, d2, d3⟩ => ?_⟩, (q3 k hk).2⟩⟩
      exact h4.sim.apart o o' ob ob' h2 d2 (by omega) k hk d3
    · exact h4.sim.apart o o' ob ob' (lookO_keepO h1).2 (lookO_keepO h2).2 h3 k hk
    · exact ⟨hFo.os, hFo.tape, hFo.output, hFo.size, hFo.keep, hFo.wr, hFo.vo, hFo.vk, hFo.b, hl⟩
    · have lt : ∀ k, (m'.free D).vo k → k < m'.w.heap.size := fun k h => m'.lt k h.1
      have := fz_fresh h4.sim (vo := (m'.free D).vo) lt (N := st.next) (fun k h => h.1) (fun o ob k h1 h2 h3 h => h.2 ⟨o, ob, h1, h2, h3⟩) x y h6 u2 u1
      exact hle _ _ _ ((closed (m := Me.base m'.w (m'.free D).vo lt) (m' := (m'.free D).cut st.next) rfl (fun k h => h) _ _ this).up (Nat.zero_le _) (Nat.zero_le _))
  · refine ⟨⟨st.env, s'.objs, s'.next, st.low⟩, m', rfl, ⟨⟨h4.sim.n, fun k hk => ?_, h4.sim.obj, h4.sim.apart⟩, hO.fr.trans h4.fr, hO.low⟩, .inr ⟨x, rfl, h7⟩⟩
    have hN := hO.sim.n
    have := h4.fr.n
    have := h4.sim.n
    exact Rep.fr h4.fr st.next s'.next (by omega) (by omega) _ _ (hO.sim.env k hk)

end Go.Proofs.Aw

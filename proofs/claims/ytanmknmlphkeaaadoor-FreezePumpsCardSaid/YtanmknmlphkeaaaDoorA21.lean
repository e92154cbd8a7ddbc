/- A PART OF THE PROOF: an abstract run of the loaded code over value trees, and the functions walked by it. No condition of its own. -/
import Derived.Test.YtanmknmlphkeaaaDoorA20
namespace Go.Proofs.Aw
open Go Go.RowKit

/-! ### a region whose order is open, gone through in the order of its text -/
def lastH : List Hp → Hp → Hp
  | [], d => d
  | [x], _ => x
  | _ :: r, d => lastH r d
/-- what is reckoned, reckoned at once: a frame, cells, objects -/
def frcL : List (Nat × LV) → (List (Nat × LV) → Prop) → Prop
  | [], k => k []
  | (d, x) :: r, k => frc x fun x => frcL r fun r => k ((d, x) :: r)
def frcOs : List (Nat × LO) → (List (Nat × LO) → Prop) → Prop
  | [], k => k []
  | (o, x) :: r, k => match x with
    | .box t cs => frcC cs fun cs => frcOs r fun r => k ((o, .box t cs) :: r)
    | .arr t sz n g => frcOs r fun r => k ((o, .arr t sz n g) :: r)
def snocK {α : Type} : List α → α → (List α → Prop) → Prop
  | [], x, k => k [x]
  | y :: r, x, k => snocK r x fun r => k (y :: r)
theorem snocK_eq {α : Type} : ∀ (l : List α) (x : α) (k : List α → Prop), snocK l x k = k (l ++ [x])
  | [], x, k => rfl
  | y :: r, x, k => by simp only [snocK]; rw [snocK_eq r]; rfl
theorem frcL_eq : ∀ (l : List (Nat × LV)) (k : List (Nat × LV) → Prop), frcL l k = k l
  | [], k => rfl
  | (d, x) :: r, k => by simp only [frcL, frc_eq]; rw [frcL_eq r]
theorem frcOs_eq : ∀ (l : List (Nat × LO)) (k : List (Nat × LO) → Prop), frcOs l k = k l
  | [], k => rfl
  | (d, x) :: r, k => by cases x <;> simp only [frcOs, frcC_eq] <;> rw [frcOs_eq r]
def stepF (P : Program) (T : Tab) (ops : List Oper) (sz : Nat) (o : Oper) (v : LV) (s' : Hp) (ms : List Nat) (base : List (Nat × LV)) (vals : List LV) (i : Nat) (s : Hp) : Prop :=
  frcL (envG (fAt ms i vals) base 0 ops) fun env => match s with
    | (a, b) => stepG P T ops sz o v s' ⟨env, a, b, b⟩
theorem stepF_eq {P : Program} {T : Tab} {ops : List Oper} {sz : Nat} {o : Oper} {v : LV} {s' : Hp} {ms : List Nat} {base : List (Nat × LV)} {vals : List LV} {i : Nat} {s : Hp} : stepF P T ops sz o v s' ms base vals i s = stepG P T ops sz o v s' (stAt ops ms base vals i s) := by
  unfold stepF; rw [frcL_eq]; cases s; rfl

/-- in the order of the text: what each gives (v), and how the objects are behind each of 'ch' -/
def drawGo (P : Program) (T : Tab) (ops : List Oper) (sz : Nat) (ms ch : List Nat) (base : List (Nat × LV)) (fin : List LV → List Hp → Prop) : Nat → List Oper → Hp → List LV → List Hp → Prop
  | i, [], s, vals, hps => fin vals hps
  | i, o :: r, s, vals, hps => match isCh ch i with
    | true => ∃ v s', stepF P T ops sz o v s' ms base vals i s ∧ match s' with
      | (a, n) => frcOs a fun a => snocK vals v fun vals => snocK hps (a, n) fun hps => drawGo P T ops sz ms ch base fin (i + 1) r (a, n) vals hps
    | false => ∃ v, stepF P T ops sz o v s ms base vals i s ∧ snocK vals v fun vals => drawGo P T ops sz ms ch base fin (i + 1) r s vals hps

/-- the other moments at which operation i may come -/
def otherH (P : Program) (T : Tab) (ops : List Oper) (sz : Nat) (ms ch : List Nat) (base : List (Nat × LV)) (vals : List LV) (hps : List Hp) (i : Nat) (o : Oper) (v : LV) (t : Nat) : Nat → Nat → Prop
  | 0, h => True
  | n + 1, h => (match Nat.beq h t with
    | true => True
    | false => match nth hps h, nth hps (match isCh ch i with | true => h + 1 | false => h) with
      | some s, some s' => stepF P T ops sz o v s' ms base vals i s
      | _, _ => False) ∧ otherH P T ops sz ms ch base vals hps i o v t n (h + 1)
def othersA (P : Program) (T : Tab) (ops : List Oper) (sz : Nat) (ms ch : List Nat) (base : List (Nat × LV)) (vals : List LV) (hps : List Hp) : Nat → List Oper → Prop
  | i, [] => True
  | i, o :: r => match Nat.beq (lo ms ch i) (ch.countP fun c => Nat.blt c i) && Nat.beq (hi ms ch i) (ch.countP fun c => Nat.blt c i) with
    | true => othersA P T ops sz ms ch base vals hps (i + 1) r
    | false => match nth vals i with
    | none => False
    | some v => otherH P T ops sz ms ch base vals hps i o v (ch.countP fun c => Nat.blt c i) (hi ms ch i + 1 - lo ms ch i) (lo ms ch i) ∧ othersA P T ops sz ms ch base vals hps (i + 1) r

theorem nth_append_left {α : Type} {l r : List α} {i : Nat} {x : α} (h : nth l i = some x) : nth (l ++ r) i = some x := by
  rw [nth_eq] at *
  rw [List.getElem?_append_left (List.getElem?_eq_some_iff.1 h).1]; exact h
theorem nth_append_at {α : Type} {l : List α} {x : α} : nth (l ++ [x]) l.length = some x := by
  rw [nth_eq]; simp

theorem fAt_congr {ms : List Nat} {i : Nat} {vals vals' : List LV} (hp : ∀ j, pre ms i j = true → j < i) (hv : ∀ j, j < i → nth vals' j = nth vals j) : ∀ j d, fAt ms i vals' j d = fAt ms i vals j d := by
  intro j d
  unfold fAt
  cases h : pre ms i j with
  | true => simp only [hv j (hp j h)]
  | false => rfl
theorem envG_congr {f f' : Nat → Nat → Option LV} {base : List (Nat × LV)} (h : ∀ j d, f j d = f' j d) : ∀ (j0 : Nat) (ops : List Oper), envG f base j0 ops = envG f' base j0 ops
  | _, [] => rfl
  | j0, o :: r => by simp only [envG, h, envG_congr h (j0 + 1) r]

theorem pre_lt {ops : List Oper} {ms ch : List Nat} (D : DrawOk ops ms ch) : ∀ i, i < ops.length → ∀ j, pre ms i j = true → j < i := by
  intro i
  induction i using Nat.strongRecOn with
  | ind i ih =>
    intro hi_ j hj
    obtain ⟨o, ho⟩ := nth_some hi_
    obtain ⟨e, he, hb, h⟩ := (D.pre_iff i o ho j).1 hj
    have := D.back i o ho e he hb
    rcases h with h | h
    · omega
    · have := ih _ this (by omega) j h
      omega

structure GoInv (P : Program) (T : Tab) (ops : List Oper) (sz : Nat) (ms ch : List Nat) (st : St) (i : Nat) (s : Hp) (vals : List LV) (hps : List Hp) : Prop where
  vlen : vals.length = i
  hlen : hps.length = (ch.countP fun c => Nat.blt c i) + 1
  last : nth hps (ch.countP fun c => Nat.blt c i) = some s
  h0 : nth hps 0 = some (st.objs, st.next)
  ob : ∀ j o v, j < i → nth ops j = some o → nth vals j = some v → ∀ s s', nth hps (ch.countP fun c => Nat.blt c j) = some s → nth hps (if isCh ch j then (ch.countP fun c => Nat.blt c j) + 1 else ch.countP fun c => Nat.blt c j) = some s' → stepG P T ops sz o v s' (stAt ops ms st.env vals j s)

theorem cnt_succ {ms ch : List Nat} (h : chainB ms ch = true) (i : Nat) : (ch.countP fun c => Nat.blt c (i + 1)) = if isCh ch i then (ch.countP fun c => Nat.blt c i) + 1 else ch.countP fun c => Nat.blt c i :=
  countP_flip (chainB_lt h) (by
    cases hb : Nat.blt i i with
    | false => rfl
    | true => rw [Nat.blt_eq] at hb; omega) fun j => by
    by_cases e : i = j
    · subst e
      rw [beqT, Bool.or_true]
      exact Nat.blt_eq.mpr (by omega)
    · rw [beqF e, Bool.or_false]
      cases hb : Nat.blt j i with
      | true => rw [Nat.blt_eq] at *; omega
      | false =>
        cases hb2 : Nat.blt j (i + 1) with
        | false => rfl
        | true =>
          rw [Nat.blt_eq] at hb2
          have : ¬ j < i := fun h => by rw [Nat.blt_eq.mpr h] at hb; cases hb
          omega

theorem stAt_congr {ops : List Oper} {ms ch : List Nat} (D : DrawOk ops ms ch) {base : List (Nat × LV)} {vals vals' : List LV} {i : Nat} {s : Hp} (hi_ : i < ops.length) (hv : ∀ j, j < i → nth vals' j = nth vals j) : stAt ops ms base vals' i s = stAt ops ms base vals i s := by
  unfold stAt
  rw [envG_congr (fAt_congr (fun j h => pre_lt D i hi_ j h) hv)]

theorem drawGo_sound {P : Program} {T : Tab} {ops : List Oper} {sz : Nat} {ms ch : List Nat} {st : St} (D : DrawOk ops ms ch) {fin : List LV → List Hp → Prop} : ∀ (r : List Oper) (i : Nat) (s : Hp) (vals : List LV) (hps : List Hp),
    (∀ k, nth r k = nth ops (i + k)) → i + r.length = ops.length → GoInv P T ops sz ms ch st i s vals hps → drawGo P T ops sz ms ch st.env fin i r s vals hps → ∃ s vals hps, GoInv P T ops sz ms ch st ops.length s vals hps ∧ fin vals hps
  | [], i, s, vals, hps, _, hl, I, h => by
    simp only [List.length_nil, Nat.add_zero] at hl
    subst hl
    exact ⟨s, vals, hps, I, h⟩
  | o :: r, i, s, vals, hps, hr, hl, I, h => by
    have ho : nth ops i = some o := by have := hr 0; simpa [nth] using this.symm
    have hil : i < ops.length := nth_lt ho
    have hr' : ∀ k, nth r k = nth ops (i + 1 + k) := fun k => by have := hr (k + 1); simp only [nth] at this; rw [this]; congr 1; omega
    have hl' : i + 1 + r.length = ops.length := by simp only [List.length_cons] at hl; omega
    have hvp : ∀ v, ∀ j, j < i → nth (vals ++ [v]) j = nth vals j := fun v j hj => by
      obtain ⟨x, hx⟩ := nth_some (l := vals) (i := j) (by rw [I.vlen]; exact hj)
      rw [hx]; exact nth_append_left hx
    have hcs := cnt_succ D.chain i
    have hle : ∀ j, j ≤ i → (ch.countP fun c => Nat.blt c j) ≤ ch.countP fun c => Nat.blt c i := fun j hj => List.countP_mono_left fun c _ h => by rw [Nat.blt_eq] at *; omega
    have hb : ∀ j v, j < i + 1 → nth (vals ++ [v]) j = some v ∧ j = i ∨ j < i := fun j v hj => by
      by_cases e : j = i
      · subst e; rw [← I.vlen]; exact .inl ⟨nth_append_at, rfl⟩
      · exact .inr (by omega)
    unfold drawGo at h
    cases hc : isCh ch i with
    | true =>
      rw [hc] at h hcs
      simp only [if_true] at hcs
      obtain ⟨v, s', h1, h2⟩ := h
      rw [stepF_eq] at h1
      obtain ⟨a0, nx⟩ := s'
      simp only [] at h2
      rw [frcOs_eq, snocK_eq, snocK_eq] at h2
      refine drawGo_sound D r (i + 1) (a0, nx) (vals ++ [v]) (hps ++ [(a0, nx)]) hr' hl' ⟨by simp [I.vlen], by rw [hcs]; simp [I.hlen], by rw [hcs, ← I.hlen]; exact nth_append_at, nth_append_left I.h0, fun j o' v' hj ho' hv' t t' ht ht' => ?_⟩ h2
      by_cases e : j = i
      · subst e
        rw [ho] at ho'; injection ho' with ho'; subst ho'
        have e1 : nth (vals ++ [v]) vals.length = some v := nth_append_at
        rw [I.vlen] at e1
        rw [e1] at hv'; injection hv' with hv'; subst hv'
        rw [nth_append_left I.last] at ht; injection ht with ht; subst ht
        rw [hc] at ht'
        simp only [if_true] at ht'
        rw [← I.hlen, nth_append_at] at ht'
        injection ht' with ht'; subst ht'
        rw [stAt_congr D hil (hvp v)]
        exact h1
      · have hj : j < i := by omega
        have hj2 := hle j (by omega)
        have hj3 := hle (j + 1) (by omega)
        rw [cnt_succ D.chain j] at hj3
        rw [hvp v j hj] at hv'
        obtain ⟨x, hx⟩ := nth_some (l := hps) (i := ch.countP fun c => Nat.blt c j) (by rw [I.hlen]; omega)
        obtain ⟨x', hx'⟩ := nth_some (l := hps) (i := if isCh ch j then (ch.countP fun c => Nat.blt c j) + 1 else ch.countP fun c => Nat.blt c j) (by rw [I.hlen]; omega)
        rw [nth_append_left hx] at ht; injection ht with ht; subst ht
        rw [nth_append_left hx'] at ht'; injection ht' with ht'; subst ht'
        rw [stAt_congr D (by omega) fun k hk => hvp v k (by omega)]
        exact I.ob j o' v' hj ho' hv' _ _ hx hx'
    | false =>
      rw [hc] at h hcs
      simp only [Bool.false_eq_true, if_false] at hcs
      obtain ⟨v, h1, h2⟩ := h
      rw [stepF_eq] at h1
      rw [snocK_eq] at h2
      refine drawGo_sound D r (i + 1) s (vals ++ [v]) hps hr' hl' ⟨by simp [I.vlen], by rw [hcs]; exact I.hlen, by rw [hcs]; exact I.last, I.h0, fun j o' v' hj ho' hv' t t' ht ht' => ?_⟩ h2
      by_cases e : j = i
      · subst e
        rw [ho] at ho'; injection ho' with ho'; subst ho'
        have e1 : nth (vals ++ [v]) vals.length = some v := nth_append_at
        rw [I.vlen] at e1
        rw [e1] at hv'; injection hv' with hv'; subst hv'
        rw [I.last] at ht; injection ht with ht; subst ht
        rw [hc] at ht'
        simp only [Bool.false_eq_true, if_false] at ht'
        rw [I.last] at ht'
        injection ht' with ht'; subst ht'
        rw [stAt_congr D hil (hvp v)]
        exact h1
      · have hj : j < i := by omega
        rw [hvp v j hj] at hv'
        rw [stAt_congr D (by omega) fun k hk => hvp v k (by omega)]
        exact I.ob j o' v' hj ho' hv' _ _ ht ht'

theorem otherH_get {P : Program} {T : Tab} {ops : List Oper} {sz : Nat} {ms ch : List Nat} {base : List (Nat × LV)} {vals : List LV} {hps : List Hp} {i : Nat} {o : Oper} {v : LV} {t : Nat} : ∀ {n h : Nat}, otherH P T ops sz ms ch base vals hps i o v t n h → ∀ k, h ≤ k → k < h + n → k ≠ t → ∀ s s', nth hps k = some s → nth hps (if isCh ch i then k + 1 else k) = some s' → stepG P T ops sz o v s' (stAt ops ms base vals i s)
  | 0, h, _, k, h1, h2, _, _, _, _, _ => by omega
  | n + 1, h, ho, k, h1, h2, h3, s, s', hs, hs' => by
    by_cases e : k = h
    · subst e
      have := ho.1
      rw [beqF h3] at this
      rw [hs] at this
      cases hc : isCh ch i with
      | true => rw [hc] at hs' this; simp only [if_true] at hs'; simp only [hs'] at this; rwa [stepF_eq] at this
      | false => rw [hc] at hs' this; simp only [Bool.false_eq_true, if_false] at hs'; simp only [hs'] at this; rwa [stepF_eq] at this
    · exact otherH_get ho.2 k (by omega) (by omega) h3 s s' hs hs'

theorem othersA_get {P : Program} {T : Tab} {ops : List Oper} {sz : Nat} {ms ch : List Nat} {base : List (Nat × LV)} {vals : List LV} {hps : List Hp} : ∀ {l : List Oper} {i0 : Nat}, othersA P T ops sz ms ch base vals hps i0 l → ∀ k o v, nth l k = some o → nth vals (i0 + k) = some v → ∀ h, lo ms ch (i0 + k) ≤ h → h ≤ hi ms ch (i0 + k) → h ≠ (ch.countP fun c => Nat.blt c (i0 + k)) → ∀ s s', nth hps h = some s → nth hps (if isCh ch (i0 + k) then h + 1 else h) = some s' → stepG P T ops sz o v s' (stAt ops ms base vals (i0 + k) s)
  | [], _, _, k, o, v, h, _ => by simp [nth] at h
  | o0 :: r, i0, ho, 0, o, v, h, hv => by
    simp only [nth, Option.some.injEq] at h
    subst h
    rw [Nat.add_zero] at hv ⊢
    intro k h1 h2 h3 s s' hs hs'
    unfold othersA at ho
    split at ho
    · rename_i hb
      rw [Bool.and_eq_true] at hb
      have e1 := Nat.eq_of_beq_eq_true hb.1
      have e2 := Nat.eq_of_beq_eq_true hb.2
      omega
    · rw [hv] at ho
      exact otherH_get ho.1 k h1 (by omega) h3 s s' hs hs'
  | o0 :: r, i0, ho, k + 1, o, v, h, hv => by
    have e : i0 + 1 + k = i0 + (k + 1) := by omega
    have key : othersA P T ops sz ms ch base vals hps (i0 + 1) r := by
      unfold othersA at ho
      split at ho
      · exact ho
      · split at ho
        · exact ho.elim
        · exact ho.2
    have := othersA_get key k o v h (by rw [e]; exact hv)
    rwa [e] at this

/-- **A REGION WHOSE ORDER IS OPEN, gone through in the order of its text.** -/
theorem DrawA.run {P : Program} {T : Tab} (hT : T.Ok P) (hm : P.follows .mixedOrders = true) {ops : Array Oper} {sz : Nat} {K : AX → St → Prop} {st : St} (ms ch : List Nat)
    (hD : drawB ops.toList ms ch = true)
    (h : drawGo P T ops.toList sz ms ch st.env (fun vals hps => othersA P T ops.toList sz ms ch st.env vals hps 0 ops.toList ∧ (match nth hps ch.length with
      | some (ob, nx) => frcL (envG (fEnd vals) st.env 0 ops.toList) fun env => K .normal ⟨env, ob, nx, st.low⟩
      | none => False)) 0 ops.toList (st.objs, st.next) [] [(st.objs, st.next)]) : DrawA P T sz ops K st := by
  have D := DrawOk.of hD
  have c0 : (ch.countP fun c => Nat.blt c 0) = 0 := by
    rw [List.countP_eq_zero]
    intro c _
    simp [Nat.blt_eq]
  obtain ⟨s, vals, hps, I, h1, h2⟩ := drawGo_sound (st := st) D ops.toList 0 (st.objs, st.next) [] [(st.objs, st.next)] (fun k => by rw [Nat.zero_add]) (by rw [Nat.zero_add])
    ⟨rfl, by rw [c0]; rfl, by rw [c0]; rfl, rfl, fun j _ _ hj => by omega⟩ h
  have cl : (ch.countP fun c => Nat.blt c ops.toList.length) = ch.length := by
    rw [List.countP_eq_length]
    intro c hc
    exact Nat.blt_eq.mpr (D.inr c hc)
  have hL := I.last
  rw [cl] at hL
  rw [hL] at h2
  obtain ⟨ob, nx⟩ := s
  simp only [frcL_eq] at h2
  refine DrawA.of hT hm (ms := ms) (ch := ch) (vals := vals) (hps := hps) (s := (ob, nx)) hD ⟨I.vlen, by rw [I.hlen, cl], I.h0, fun i o v ho hv k hk1 hk2 s s' hs hs' => ?_⟩ hL h2
  by_cases e : k = ch.countP fun c => Nat.blt c i
  · subst e
    exact I.ob i o v (nth_lt ho) ho hv s s' hs hs'
  · have := othersA_get h1 i o v ho (by rw [Nat.zero_add]; exact hv)
    rw [Nat.zero_add] at this
    exact this k hk1 hk2 e s s' hs hs'

end Go.Proofs.Aw

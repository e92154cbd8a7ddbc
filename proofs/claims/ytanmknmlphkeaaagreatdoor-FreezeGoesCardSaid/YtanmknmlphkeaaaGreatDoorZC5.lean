/- PROVED: the law FreezeGoes is true for every input, and its arguments read behind the call as before; no condition beyond the given row. -/
import Derived.Test.YtanmknmlphkeaaaGreatDoorZC0
import Derived.Test.YtanmknmlphkeaaaGreatDoorZF3
namespace Go.Proofs.YtanmknmlphkeaaaGreatDoor.freezeGoes
open Go.ChangeShapes Go.WideShapes Go.ChangeAt Go.RowKit Go.Proofs.Aw
open Go.Proofs.YtanmknmlphkeaaaGreatDoor.kit
set_option maxRecDepth 100000
set_option maxHeartbeats 4000000

theorem contract (H : Type) (enc : TypeId × Value → H) (W : World) (base : Nat) (args : Array Value) (ds gs : List (DataW H)) (before : List MemPlace)
    (hval : ∀ (j : Nat) t v, Tryz.f5.params[j]? = some t → args[j]? = some v → Value.okWide Tryz.prog W .any base t v)
    (hW : DataW.Whole enc Tryz.prog Tryz.f5.params.toList Rows.freezeGoesSpec.vars false W args.toList ds gs before) :
    Calls Tryz.prog 5 args W fun e W' => ∃ v, e = .returned v ∧ Rows.freezeGoesSpec.post enc Tryz.prog Tryz.f5 false true false false W args v W' := by
  have hW' := hW
  have hlt := hW.lt
  obtain ⟨p, q, hA0, hV, rfl, hfz, hnd⟩ := hW
  have hA : DataW.TrodAll enc Tryz.prog W 0 (fun _ => true) true Tryz.f5.params.toList args.toList ds p := hA0
  rw [Tryz.params5] at hA hval
  obtain ⟨v0, vs0, d0, ds0, p0, q0, hargs, rfl, rfl, h0, r0⟩ := trodAll_cons hA
  obtain ⟨v1, vs1, d1, ds1, p1, q1, rfl, rfl, rfl, h1, r1⟩ := trodAll_cons r0
  obtain ⟨v2, vs2, d2, ds2, p2, q2, rfl, rfl, rfl, h2, r2⟩ := trodAll_cons r1
  obtain ⟨v3, vs3, d3, ds3, p3, q3, rfl, rfl, rfl, h3, r3⟩ := trodAll_cons r2
  obtain ⟨rfl, rfl, rfl⟩ := trodAll_nil r3
  obtain rfl : args = #[v0, v1, v2, v3] := by cases args; simp_all
  obtain ⟨rfl, rfl⟩ := trodVars_none hV
  obtain ⟨c0, rfl⟩ := agg_of Tryz.underlying43 (hval 0 43 v0 rfl rfl)
  obtain ⟨c1, rfl⟩ := agg_of Tryz.underlying30 (hval 1 30 v1 rfl rfl)
  obtain ⟨c2, rfl⟩ := agg_of Tryz.underlying30 (hval 2 30 v2 rfl rfl)
  have h3k := h3
  obtain ⟨z, rfl, rfl, rfl, hz⟩ := open_int Tryz.underlying3 (hval 3 3 v3 rfl rfl) h3
  have h0k := h0; have h1k := h1; have h2k := h2
  obtain ⟨u0, t0⟩ := h0
  obtain ⟨u1, t1⟩ := h1
  obtain ⟨u2, t2⟩ := h2
  obtain ⟨c, n0, n1, k0, k1, r, s0, o0⟩ := open_shot t0
  obtain ⟨m1, s1, o1⟩ := open_mac t1
  obtain ⟨m2, s2, o2⟩ := open_mac t2
  have hz2 : z ≤ 9223372036854775807 := by
    simp only [Lit.wf, Bool.and_eq_true, decide_eq_true_eq] at hz
    have e : IntKind.i64.max = 9223372036854775807 := by decide
    omega
  have walk := (goes_ct m1 m2 c z n0 n1 k0 k1 r hz2).2 W (fun _ => False) (fun _ h => h.elim) [.agg c0, .agg c1, .agg c2, .int .i64 z]
    ⟨_, _, rfl, ⟨c0.toList, rfl, s0, o0⟩, _, _, rfl, ⟨c1.toList, rfl, s1, o1⟩, _, _, rfl, ⟨c2.toList, rfl, s2, o2⟩, _, _, rfl, rfl, rfl⟩
  refine walk.mono fun e W' ⟨y, lt', he, hk, hr⟩ => ?_
  have hr : y = .bool true := hr
  subst hr; subst he
  have hb : Below W.heap.size W W' := ⟨hk.sys.os, hk.sys.tape, hk.sys.output, hk.size, hk.keep⟩
  simp only [List.append_nil] at hW' hlt
  have stays : ∀ {t : TypeId} {v : Value} {d : DataW H} {ps : List MemPlace}, Tryz.prog.readableRec t = true → t < Tryz.prog.types.size → DataW.Trod enc Tryz.prog W 0 (fun _ => true) true t v d ps → (∀ x ∈ ps, x ∈ p0 ++ (p1 ++ p2)) → ∀ sp : Nat → Bool, (∀ p ∈ p0 ++ (p1 ++ p2), sp p.block = true) → DataW.Trod enc Tryz.prog W' 0 sp true t v d ps :=
    fun hr hrow h hin sp hsp => Go.WideElems.Trod_stays laidOut hr hrow h (fun x hx => hb.same (hlt x (hin x hx))) fun x hx => hsp x (hin x hx)
  have hargs : ∀ sp : Nat → Bool, (∀ p ∈ p0 ++ (p1 ++ p2), sp p.block = true) → DataW.TrodAll enc Tryz.prog W' 0 sp true Tryz.f5.params.toList [.agg c0, .agg c1, .agg c2, .int .i64 z] [d0, d1, d2, .lit (.int .i64 z)] (p0 ++ (p1 ++ (p2 ++ []))) := fun sp hsp =>
    trodAll_mk4 (stays (by kernel_rfl) (of_decide_eq_true (by kernel_rfl)) h0k (fun x hx => by simp [hx]) sp hsp) (stays (by kernel_rfl) (of_decide_eq_true (by kernel_rfl)) h1k (fun x hx => by simp [hx]) sp hsp)
      (stays (by kernel_rfl) (of_decide_eq_true (by kernel_rfl)) h2k (fun x hx => by simp [hx]) sp hsp) (stays (by kernel_rfl) (of_decide_eq_true (by kernel_rfl)) h3k (fun x hx => by cases hx) sp hsp)
  simp only [List.append_nil] at hargs
  exact ⟨_, rfl, post_old (pa := p0 ++ (p1 ++ p2)) (pv := []) hW' hb (fun _ _ _ => trodAll_cons_mk (shut_bool Tryz.underlying4 _) trodAll_mk0) hargs (fun _ _ => rfl) (by simp) (ok_one (by kernel_rfl) rfl (okWide_bool_mk Tryz.underlying4 _))⟩

def wArgs : Array Value := #[wShot, wMac, wMac, .int .i64 0]
theorem laid_met (os : Os) : laidMet Tryz.prog Rows.freezeGoesRow.laid ((laidWorld os).forCall (fun _ _ => 0) ⟨#[], wArgs, []⟩).memory :=
  laidMet_of_run' 8 (by kernel_rfl) (by kernel_rfl)
theorem reads (os : Os) {H : Type} (enc : TypeId × Value → H) : ∃ places, DataW.whole enc Tryz.prog ((laidWorld os).forCall (fun _ _ => 0) ⟨#[], wArgs, []⟩).memory Tryz.f5.params.toList Rows.freezeGoesSpec.vars false wArgs.toList 8 = some ([.agg [.lit (.int .u64 0), .nil, .nil, .lit (.string [])], wdMac, wdMac, .lit (.int .i64 0)], [], places) :=
  ⟨[], by kernel_rfl⟩

theorem lifted (os : Os) (started : os.Started) (H : Type) (enc : TypeId × Value → H) (F : Stop.Interp) :
    ReturnsInHanded {} Tryz.checked os 5 .any ((OpenSpec.ofChange Rows.freezeGoesSpec).preRow enc Tryz.prog Tryz.f5 Rows.freezeGoesRow.domain false Rows.freezeGoesRow.laid) (((OpenSpec.ofChange Rows.freezeGoesSpec).at F).post enc Tryz.prog Tryz.f5 false true false false) := by
  obtain ⟨places, hx⟩ := reads os enc
  refine returnsInHanded_of_row (C := Tryz.checked) (s := OpenSpec.ofChange Rows.freezeGoesSpec) own started (by kernel_rfl) Tryz.func5
    (witness_row_at (enc := enc) (C := Tryz.checked) false (laidWorld os) wArgs rfl (by kernel_rfl) (by kernel_rfl) (by kernel_rfl)
      (OpenSpec.preRow_of_cond 8 hx (by kernel_rfl) (fun k hk => by cases hk) (by kernel_rfl) (laid_met os))) ?_
  intro W base args ds gs before hval hW _ _ _ hL _ _
  exact contract H enc W base args ds gs before hval hW

theorem said : Rows.FreezeGoesSaid :=
  OpenClaim.holds_of_cond 5 Tryz.f5 rfl rfl rfl rfl rfl rfl rfl ⟨rfl, rfl, rfl, rfl, rfl⟩ rfl rfl rfl rfl rfl (by kernel_rfl) Tryz.func5 (by kernel_rfl)
    (of_decide_eq_true (by kernel_rfl)) (by unfold Func.isWrapper; first | (rw [if_pos (by decide +kernel)]; kernel_rfl) | (rw [if_neg (by decide +kernel)]; exact ⟨rfl, rfl⟩))
    (fun os started H enc _ F => by rw [OpenClaim.pre_eq_preRow]; exact lifted os started H enc F)

theorem plain (f : FuncId) (fn : Func) (hf : Tryz.pinned.checked.prog.funcNamed "hibernacle/hibernaclelaw34.FreezeGoes" = some f) (hfn : Tryz.pinned.checked.prog.funcs[f]? = some fn) :
    true = Tryz.pinned.checked.prog.looks [] ∧ ∀ (j : Nat) t, fn.params[j]? = some t → Tryz.pinned.checked.prog.wantsStandIn t = false := by
  obtain rfl : f = 5 := Option.some.inj ((show Tryz.prog.funcNamed "hibernacle/hibernaclelaw34.FreezeGoes" = some 5 by kernel_rfl).symm.trans hf) |>.symm
  obtain rfl : fn = Tryz.f5 := (Option.some.inj (Tryz.func5.symm.trans hfn)).symm
  refine ⟨by kernel_rfl, fun j t ht => ?_⟩
  rw [Tryz.params5] at ht
  have ht : t = 43 ∨ t = 30 ∨ t = 3 := by have := Array.mem_of_getElem? ht; simp at this; omega
  rcases ht with rfl | rfl | rfl
  · exact (show Tryz.prog.wantsStandIn 43 = false by kernel_rfl)
  · exact (show Tryz.prog.wantsStandIn 30 = false by kernel_rfl)
  · exact (show Tryz.prog.wantsStandIn 3 = false by kernel_rfl)

/-- ████ THE CARD ████ -/
theorem card : Rows.FreezeGoesCardSaid :=
  Claim7.holds_tied_plain_at .later [] _ _ _ _ said (fun _ h => by cases h) (by kernel_rfl) (fun _ h => by cases h) freezeGoes_row_tie rfl ⟨rfl, rfl⟩ (by kernel_rfl) rfl plain (by kernel_rfl)
#print axioms card
end Go.Proofs.YtanmknmlphkeaaaGreatDoor.freezeGoes

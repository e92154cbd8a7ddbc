/- PROVED: the law ImageApart is true for every input, and its arguments read behind the call as before; no condition beyond the given row. -/
import Derived.Test.YtanmknmlphkeaaaGreatDoorZC0
import Derived.Test.YtanmknmlphkeaaaGreatDoorZS5
namespace Go.Proofs.YtanmknmlphkeaaaGreatDoor.imageApart
open Go.ChangeShapes Go.WideShapes Go.ChangeAt Go.RowKit Go.Proofs.Aw
open Go.Proofs.YtanmknmlphkeaaaGreatDoor.kit
set_option maxRecDepth 100000
set_option maxHeartbeats 4000000

/-- the powers of ten lie in memory, by the row's own condition -/
theorem table_of {W : World} (h : laidMet Tryz.prog Rows.imageApartRow.laid W) : ∃ o, PowO o ∧ W.heap[1]? = some o := by
  obtain ⟨ps, ⟨g1, t1, cs1, f1, p1, q1, a1, a2, a3, a4, h2, a5⟩, hps⟩ := h
  obtain ⟨g2, t2, cs2, f2, p2, q2, b1, b2, b3, b4, h3, b5⟩ := h2
  obtain ⟨g3, t3, cs3, f3, p3, q3, d1, d2, d3, d4, h4, d5⟩ := h3
  have hg : Tryz.prog.globalNamed "internal/strconv.uint64pow10" = some 1 := Tryz.laysM173.m17
  obtain rfl : (1 : Nat) = g3 := Option.some.inj (hg.symm.trans d1)
  have ht : (Tryz.prog.globals[1]?).map (·.type) = some 251 := by kernel_rfl
  obtain rfl : (251 : Nat) = t3 := Option.some.inj (ht.symm.trans d2)
  have hd : (Rows.laid_internal_strconv_uint64pow10 : DataW Unit) = Lib.tabData .u64 Lib.pow10Tab := by rfl
  have hcs := Lib.cells_of_tab (n := 20) (e := 22) (k := .u64) (zs := Lib.pow10Tab) Tryz.underlying251 Tryz.underlying22 (by kernel_rfl) (by kernel_rfl) (by rw [← hd]; exact d4)
  unfold World.var? at d3
  rw [hg] at d3
  simp only [Option.bind_some] at d3
  split at d3
  · rename_i cs ty fz hc
    injection d3 with d3
    refine ⟨_, ⟨ty, fz, rfl⟩, ?_⟩
    rw [hc, d3, ← hcs]
  · cases d3

theorem contract (H : Type) (enc : TypeId × Value → H) (W : World) (base : Nat) (args : Array Value) (ds gs : List (DataW H)) (before : List MemPlace)
    (hval : ∀ (j : Nat) t v, Tryz.f3.params[j]? = some t → args[j]? = some v → Value.okWide Tryz.prog W .any base t v)
    (hW : DataW.Whole enc Tryz.prog Tryz.f3.params.toList Rows.imageApartSpec.vars false W args.toList ds gs before) (hL : laidMet Tryz.prog Rows.imageApartRow.laid W) :
    Calls Tryz.prog 3 args W fun e W' => ∃ v, e = .returned v ∧ Rows.imageApartSpec.post enc Tryz.prog Tryz.f3 false true false false W args v W' := by
  obtain ⟨o, ho, hG⟩ := table_of hL
  have hW' := hW
  have hlt := hW.lt
  obtain ⟨p, q, hA0, hV, rfl, hfz, hnd⟩ := hW
  have hA : DataW.TrodAll enc Tryz.prog W 0 (fun _ => true) true Tryz.f3.params.toList args.toList ds p := hA0
  rw [Tryz.params3] at hA hval
  obtain ⟨v0, vs0, d0, ds0, p0, q0, hargs, rfl, rfl, h0, r0⟩ := trodAll_cons hA
  obtain ⟨v1, vs1, d1, ds1, p1, q1, rfl, rfl, rfl, h1, r1⟩ := trodAll_cons r0
  obtain ⟨rfl, rfl, rfl⟩ := trodAll_nil r1
  obtain rfl : args = #[v0, v1] := by cases args; simp_all
  obtain ⟨rfl, rfl⟩ := trodVars_none hV
  obtain ⟨c0, rfl⟩ := agg_of Tryz.underlying30 (hval 0 30 v0 rfl rfl)
  obtain ⟨c1, rfl⟩ := agg_of Tryz.underlying30 (hval 1 30 v1 rfl rfl)
  have h0k := h0; have h1k := h1
  obtain ⟨u0, t0⟩ := h0
  obtain ⟨u1, t1⟩ := h1
  obtain ⟨m, hR, s0, o0⟩ := open_macM hG t0
  obtain ⟨m2, hR2, s1, o1⟩ := open_macM hG t1
  have walk := (apart_ct ho m m2 hR hR2).2 W (fun _ => False) (fun _ h => h.elim) [.agg c0, .agg c1]
    ⟨_, _, rfl, ⟨c0.toList, rfl, s0, o0⟩, _, _, rfl, ⟨c1.toList, rfl, s1, o1⟩, rfl⟩
  refine walk.mono fun e W' ⟨y, lt', he, hk, hr⟩ => ?_
  have hr : y = .bool true := hr
  subst hr; subst he
  have hb : Below W.heap.size W W' := ⟨hk.sys.os, hk.sys.tape, hk.sys.output, hk.size, hk.keep⟩
  simp only [List.append_nil] at hW' hlt
  have stays : ∀ {t : TypeId} {v : Value} {d : DataW H} {ps : List MemPlace}, Tryz.prog.readableRec t = true → t < Tryz.prog.types.size → DataW.Trod enc Tryz.prog W 0 (fun _ => true) true t v d ps → (∀ x ∈ ps, x ∈ p0 ++ p1) → ∀ sp : Nat → Bool, (∀ p ∈ p0 ++ p1, sp p.block = true) → DataW.Trod enc Tryz.prog W' 0 sp true t v d ps :=
    fun hr hrow h hin sp hsp => Go.WideElems.Trod_stays laidOut hr hrow h (fun x hx => hb.same (hlt x (hin x hx))) fun x hx => hsp x (hin x hx)
  have hargs : ∀ sp : Nat → Bool, (∀ p ∈ p0 ++ p1, sp p.block = true) → DataW.TrodAll enc Tryz.prog W' 0 sp true Tryz.f3.params.toList [.agg c0, .agg c1] [d0, d1] (p0 ++ p1) := fun sp hsp =>
    trodAll_mk2 (stays (by kernel_rfl) (of_decide_eq_true (by kernel_rfl)) h0k (fun x hx => by simp [hx]) sp hsp) (stays (by kernel_rfl) (of_decide_eq_true (by kernel_rfl)) h1k (fun x hx => by simp [hx]) sp hsp)
  exact ⟨_, rfl, post_old (pa := p0 ++ p1) (pv := []) hW' hb (fun _ _ _ => trodAll_cons_mk (shut_bool Tryz.underlying4 _) trodAll_mk0) hargs (fun _ _ => rfl) (by simp) (ok_one (by kernel_rfl) rfl (okWide_bool_mk Tryz.underlying4 _))⟩

def wArgs : Array Value := #[wMac, wMac]
theorem laid_met (os : Os) : laidMet Tryz.prog Rows.imageApartRow.laid ((laidWorld os).forCall (fun _ _ => 0) ⟨#[], wArgs, []⟩).memory :=
  laidMet_of_run' 8 (by kernel_rfl) (by kernel_rfl)
theorem reads (os : Os) {H : Type} (enc : TypeId × Value → H) : ∃ places, DataW.whole enc Tryz.prog ((laidWorld os).forCall (fun _ _ => 0) ⟨#[], wArgs, []⟩).memory Tryz.f3.params.toList Rows.imageApartSpec.vars false wArgs.toList 8 = some ([wdMac, wdMac], [], places) :=
  ⟨[], by kernel_rfl⟩

theorem lifted (os : Os) (started : os.Started) (H : Type) (enc : TypeId × Value → H) (F : Stop.Interp) :
    ReturnsInHanded {} Tryz.checked os 3 .any ((OpenSpec.ofChange Rows.imageApartSpec).preRow enc Tryz.prog Tryz.f3 Rows.imageApartRow.domain false Rows.imageApartRow.laid) (((OpenSpec.ofChange Rows.imageApartSpec).at F).post enc Tryz.prog Tryz.f3 false true false false) := by
  obtain ⟨places, hx⟩ := reads os enc
  refine returnsInHanded_of_row (C := Tryz.checked) (s := OpenSpec.ofChange Rows.imageApartSpec) own started (by kernel_rfl) Tryz.func3
    (witness_row_at (enc := enc) (C := Tryz.checked) false (laidWorld os) wArgs rfl (by kernel_rfl) (by kernel_rfl) (by kernel_rfl)
      (OpenSpec.preRow_of_cond 8 hx (by kernel_rfl) (fun k hk => by cases hk) (by kernel_rfl) (laid_met os))) ?_
  intro W base args ds gs before hval hW _ _ _ hL _ _
  exact contract H enc W base args ds gs before hval hW hL

theorem said : Rows.ImageApartSaid :=
  OpenClaim.holds_of_cond 3 Tryz.f3 rfl rfl rfl rfl rfl rfl rfl ⟨rfl, rfl, rfl, rfl, rfl⟩ rfl rfl rfl rfl rfl (by kernel_rfl) Tryz.func3 (by kernel_rfl)
    (of_decide_eq_true (by kernel_rfl)) (by unfold Func.isWrapper; first | (rw [if_pos (by decide +kernel)]; kernel_rfl) | (rw [if_neg (by decide +kernel)]; exact ⟨rfl, rfl⟩))
    (fun os started H enc _ F => by rw [OpenClaim.pre_eq_preRow]; exact lifted os started H enc F)

theorem plain (f : FuncId) (fn : Func) (hf : Tryz.pinned.checked.prog.funcNamed "hibernacle/hibernaclelaw32.ImageApart" = some f) (hfn : Tryz.pinned.checked.prog.funcs[f]? = some fn) :
    true = Tryz.pinned.checked.prog.looks [] ∧ ∀ (j : Nat) t, fn.params[j]? = some t → Tryz.pinned.checked.prog.wantsStandIn t = false := by
  obtain rfl : f = 3 := Option.some.inj ((show Tryz.prog.funcNamed "hibernacle/hibernaclelaw32.ImageApart" = some 3 by kernel_rfl).symm.trans hf) |>.symm
  obtain rfl : fn = Tryz.f3 := (Option.some.inj (Tryz.func3.symm.trans hfn)).symm
  refine ⟨by kernel_rfl, fun j t ht => ?_⟩
  rw [Tryz.params3] at ht
  have ht : t = 30 := by have := Array.mem_of_getElem? ht; simp at this; omega
  subst ht
  exact (show Tryz.prog.wantsStandIn 30 = false by kernel_rfl)

/-- ████ THE CARD ████ -/
theorem card : Rows.ImageApartCardSaid :=
  Claim7.holds_tied_plain_at .later [] _ _ _ _ said (fun _ h => by cases h) (by kernel_rfl) (fun _ h => by cases h) imageApart_row_tie rfl ⟨rfl, rfl⟩ (by kernel_rfl) rfl plain (by kernel_rfl)
#print axioms card
end Go.Proofs.YtanmknmlphkeaaaGreatDoor.imageApart

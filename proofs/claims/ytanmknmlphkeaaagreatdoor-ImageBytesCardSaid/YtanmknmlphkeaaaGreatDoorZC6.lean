/- PROVED: the law ImageBytes is true for every input, and its argument reads behind the call as before; no condition beyond the given row. -/
import Derived.Test.YtanmknmlphkeaaaGreatDoorZC0
import Derived.Test.YtanmknmlphkeaaaGreatDoorZC1
import Derived.Test.YtanmknmlphkeaaaGreatDoorZK7
namespace Go.Proofs.YtanmknmlphkeaaaGreatDoor.imageBytes
open Go.ChangeShapes Go.WideShapes Go.ChangeAt Go.RowKit Go.Proofs.Aw
open Go.Proofs.YtanmknmlphkeaaaGreatDoor.kit
set_option maxRecDepth 100000
set_option maxHeartbeats 4000000

theorem contract (H : Type) (enc : TypeId × Value → H) (W : World) (base : Nat) (args : Array Value) (ds gs : List (DataW H)) (before : List MemPlace)
    (hval : ∀ (j : Nat) t v, Tryz.f6.params[j]? = some t → args[j]? = some v → Value.okWide Tryz.prog W .any base t v)
    (hW : DataW.Whole enc Tryz.prog Tryz.f6.params.toList Rows.imageBytesSpec.vars false W args.toList ds gs before) :
    Calls Tryz.prog 6 args W fun e W' => ∃ v, e = .returned v ∧ Rows.imageBytesSpec.post enc Tryz.prog Tryz.f6 false true false false W args v W' := by
  have hW' := hW
  have hlt := hW.lt
  obtain ⟨p, q, hA0, hV, rfl, hfz, hnd⟩ := hW
  have hA : DataW.TrodAll enc Tryz.prog W 0 (fun _ => true) true Tryz.f6.params.toList args.toList ds p := hA0
  rw [Tryz.params6] at hA hval
  obtain ⟨v0, vs0, d0, ds0, p0, q0, hargs, rfl, rfl, h0, r0⟩ := trodAll_cons hA
  obtain ⟨rfl, rfl, rfl⟩ := trodAll_nil r0
  obtain rfl : args = #[v0] := by cases args; simp_all
  obtain ⟨rfl, rfl⟩ := trodVars_none hV
  obtain ⟨c0, rfl⟩ := agg_of Tryz.underlying36 (hval 0 36 v0 rfl rfl)
  have h0k := h0
  obtain ⟨u0, t0⟩ := h0
  obtain ⟨n0, n1, k0, k1, r, s0, o0⟩ := open_img t0
  have walk := (ibytes_ct n0 n1 k0 k1 r).2 W (fun _ => False) (fun _ h => h.elim) [.agg c0] ⟨_, _, rfl, ⟨c0.toList, rfl, s0, o0⟩, rfl⟩
  refine walk.mono fun e W' ⟨y, lt', he, hk, hr⟩ => ?_
  have hr : y = .bool true := hr
  subst hr; subst he
  have hb : Below W.heap.size W W' := ⟨hk.sys.os, hk.sys.tape, hk.sys.output, hk.size, hk.keep⟩
  simp only [List.append_nil, List.nil_append] at hW' hlt
  have stays : ∀ {t : TypeId} {v : Value} {d : DataW H} {ps : List MemPlace}, Tryz.prog.readableRec t = true → t < Tryz.prog.types.size → DataW.Trod enc Tryz.prog W 0 (fun _ => true) true t v d ps → (∀ x ∈ ps, x ∈ p0) → ∀ sp : Nat → Bool, (∀ p ∈ p0, sp p.block = true) → DataW.Trod enc Tryz.prog W' 0 sp true t v d ps :=
    fun hr hrow h hin sp hsp => Go.WideElems.Trod_stays laidOut hr hrow h (fun x hx => hb.same (hlt x (hin x hx))) fun x hx => hsp x (hin x hx)
  exact ⟨_, rfl, post_old (pa := p0) (pv := []) hW' hb (fun _ _ _ => trodAll_cons_mk (shut_bool Tryz.underlying4 _) trodAll_mk0) (fun sp hsp => trodAll_mk1 (stays (by kernel_rfl) (of_decide_eq_true (by kernel_rfl)) h0k (fun x hx => hx) sp hsp)) (fun _ _ => rfl) (by simp) (ok_one (by kernel_rfl) rfl (okWide_bool_mk Tryz.underlying4 _))⟩

def wArgs : Array Value := #[.agg #[.slice none 0 0, .slice none 0 0, .string ⟨#[]⟩]]
theorem laid_met (os : Os) : laidMet Tryz.prog Rows.imageBytesRow.laid ((laidWorld os).forCall (fun _ _ => 0) ⟨#[], wArgs, []⟩).memory :=
  laidMet_of_run' 8 (by kernel_rfl) (by kernel_rfl)
theorem reads (os : Os) {H : Type} (enc : TypeId × Value → H) : ∃ places, DataW.whole enc Tryz.prog ((laidWorld os).forCall (fun _ _ => 0) ⟨#[], wArgs, []⟩).memory Tryz.f6.params.toList Rows.imageBytesSpec.vars false wArgs.toList 8 = some ([.agg [.nil, .nil, .lit (.string [])]], [], places) :=
  ⟨[], by kernel_rfl⟩

theorem lifted (os : Os) (started : os.Started) (H : Type) (enc : TypeId × Value → H) (F : Stop.Interp) :
    ReturnsInHanded {} Tryz.checked os 6 .any ((OpenSpec.ofChange Rows.imageBytesSpec).preRow enc Tryz.prog Tryz.f6 Rows.imageBytesRow.domain false Rows.imageBytesRow.laid) (((OpenSpec.ofChange Rows.imageBytesSpec).at F).post enc Tryz.prog Tryz.f6 false true false false) := by
  obtain ⟨places, hx⟩ := reads os enc
  refine returnsInHanded_of_row (C := Tryz.checked) (s := OpenSpec.ofChange Rows.imageBytesSpec) own started (by kernel_rfl) Tryz.func6
    (witness_row_at (enc := enc) (C := Tryz.checked) false (laidWorld os) wArgs rfl (by kernel_rfl) (by kernel_rfl) (by kernel_rfl)
      (OpenSpec.preRow_of_cond 8 hx (by kernel_rfl) (fun k hk => by cases hk) (by kernel_rfl) (laid_met os))) ?_
  intro W base args ds gs before hval hW _ _ _ hL _ _
  exact contract H enc W base args ds gs before hval hW

theorem said : Rows.ImageBytesSaid :=
  OpenClaim.holds_of_cond 6 Tryz.f6 rfl rfl rfl rfl rfl rfl rfl ⟨rfl, rfl, rfl, rfl, rfl⟩ rfl rfl rfl rfl rfl (by kernel_rfl) Tryz.func6 (by kernel_rfl)
    (of_decide_eq_true (by kernel_rfl)) (by unfold Func.isWrapper; first | (rw [if_pos (by decide +kernel)]; kernel_rfl) | (rw [if_neg (by decide +kernel)]; exact ⟨rfl, rfl⟩))
    (fun os started H enc _ F => by rw [OpenClaim.pre_eq_preRow]; exact lifted os started H enc F)

theorem plain (f : FuncId) (fn : Func) (hf : Tryz.pinned.checked.prog.funcNamed "hibernacle/hibernaclelaw32.ImageBytes" = some f) (hfn : Tryz.pinned.checked.prog.funcs[f]? = some fn) :
    true = Tryz.pinned.checked.prog.looks [] ∧ ∀ (j : Nat) t, fn.params[j]? = some t → Tryz.pinned.checked.prog.wantsStandIn t = false := by
  obtain rfl : f = 6 := Option.some.inj ((show Tryz.prog.funcNamed "hibernacle/hibernaclelaw32.ImageBytes" = some 6 by kernel_rfl).symm.trans hf) |>.symm
  obtain rfl : fn = Tryz.f6 := (Option.some.inj (Tryz.func6.symm.trans hfn)).symm
  refine ⟨by kernel_rfl, fun j t ht => ?_⟩
  rw [Tryz.params6] at ht
  have ht : t = 36 := by have := Array.mem_of_getElem? ht; simp at this; omega
  subst ht
  exact (show Tryz.prog.wantsStandIn 36 = false by kernel_rfl)

/-- ████ THE CARD ████ -/
theorem card : Rows.ImageBytesCardSaid :=
  Claim7.holds_tied_plain_at .later [] _ _ _ _ said (fun _ h => by cases h) (by kernel_rfl) (fun _ h => by cases h) imageBytes_row_tie rfl ⟨rfl, rfl⟩ (by kernel_rfl) rfl plain (by kernel_rfl)
#print axioms card
end Go.Proofs.YtanmknmlphkeaaaGreatDoor.imageBytes

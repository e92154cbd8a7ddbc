/- A PART OF THE PROOF: an abstract run of the loaded code over value trees, and the functions walked by it. No condition of its own. -/
import Derived.Test.YtanmknmlphkeaaaDoorD11
import Derived.Laws.StructEq
namespace Go.Proofs.Aw
open Go Go.Proofs
set_option maxHeartbeats 4000000
set_option maxRecDepth 100000
theorem eqF_kept (a a' : Bool) (s s' : List UInt8) : EqF Tryd.prog 48 [.bs a, .str s] [.bs a', .str s'] (a == a' && s == s') := by
  intro m N ys zs w op x y h1 h2
  obtain ⟨y1, r1, rfl, e1, y2, r2, rfl, e2, e3⟩ := h1
  obtain ⟨z1, q1, rfl, f1, z2, q2, rfl, f2, f3⟩ := h2
  have e1 : y1 = .bool a := e1
  have e2 : y2 = strV s := e2
  have e3 : r2 = [] := e3
  have f1 : z1 = .bool a' := f1
  have f2 : z2 = strV s' := f2
  have f3 : q2 = [] := f3
  subst e1; subst e2; subst e3; subst f1; subst f2; subst f3
  have u4 := Tryd.underlying4
  have u9 := Tryd.underlying9
  refine ⟨run_eqGuard_agg w op 48 x y _ _ Tryd.eqGuardType48, ?_⟩
  show (Op.equalIn (9999 + 1) 48 _ _).run Tryd.prog w = _
  rw [run_equalIn_agg w 9999 48 _ _ rfl Tryd.stoodInHeld48]
  have hf : (Tryd.prog.fieldsOf 48).toList = [{ name := "Is", type := 4, offset := 0, embedded := false, tag := "", pkgPath := "", byteOffset := 0 }, { name := "Data", type := 9, offset := 1, embedded := false, tag := "", pkgPath := "", byteOffset := 8 }] := rfl
  rw [hf]
  simp only [Op.eqFields]
  have q1 := fun (b c : Bool) (w : World) => run_equalIn_bool' w 9998 4 b c u4
  have q2 := fun (w : World) => run_equalIn_string w 9998 9 ⟨s.toArray⟩ ⟨s'.toArray⟩ u9
  have q3 : ((⟨s.toArray⟩ : ByteArray).toList == (⟨s'.toArray⟩ : ByteArray).toList) = (s == s') := by
    rw [ByteArray.toList_eq, ByteArray.toList_eq]
  rw [q3] at q2
  simp only [Nat.reduceAdd] at q1 q2
  have d1 : ("Is" ≠ "_") = True := by simp
  have d2 : ("Data" ≠ "_") = True := by simp
  cases a <;> cases a' <;> simp [part, strV, q1, q2]
  all_goals (cases hs : (s == s') <;> simp_all)
end Go.Proofs.Aw

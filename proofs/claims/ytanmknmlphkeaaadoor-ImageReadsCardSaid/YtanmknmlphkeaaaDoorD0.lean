/- A PART OF THE PROOF: an abstract run of the loaded code over value trees, and the functions walked by it. No condition of its own. -/
import Derived.Test.YtanmknmlphkeaaaDoorTabD
import Derived.Test.YtanmknmlphkeaaaDoorAF
namespace Go.Proofs.Aw
open Go Go.Proofs
set_option maxRecDepth 100000
theorem ft4 : FnText Tryd.prog 4 Tryd.f4 4 := ⟨Tryd.func4, rfl, Tryd.call4, rfl, rfl, rfl⟩
theorem ft5 : FnText Tryd.prog 5 Tryd.f5 4 := ⟨Tryd.func5, rfl, Tryd.call5, rfl, rfl, rfl⟩
theorem ft11 : FnText Tryd.prog 11 Tryd.f11 0 := ⟨Tryd.func11, rfl, Tryd.call11, rfl, rfl, rfl⟩
theorem ft12 : FnText Tryd.prog 12 Tryd.f12 2 := ⟨Tryd.func12, rfl, Tryd.call12, rfl, rfl, rfl⟩
theorem ft13 : FnText Tryd.prog 13 Tryd.f13 3 := ⟨Tryd.func13, rfl, Tryd.call13, rfl, rfl, rfl⟩
theorem ft14 : FnText Tryd.prog 14 Tryd.f14 3 := ⟨Tryd.func14, rfl, Tryd.call14, rfl, rfl, rfl⟩
theorem ft15 : FnText Tryd.prog 15 Tryd.f15 1 := ⟨Tryd.func15, rfl, Tryd.call15, rfl, rfl, rfl⟩
theorem ft16 : FnText Tryd.prog 16 Tryd.f16 2 := ⟨Tryd.func16, rfl, Tryd.call16, rfl, rfl, rfl⟩
theorem ft17 : FnText Tryd.prog 17 Tryd.f17 1 := ⟨Tryd.func17, rfl, Tryd.call17, rfl, rfl, rfl⟩
theorem ft23 : FnText Tryd.prog 23 Tryd.f23 1 := ⟨Tryd.func23, rfl, Tryd.call23, rfl, rfl, rfl⟩
theorem ft24 : FnText Tryd.prog 24 Tryd.f24 1 := ⟨Tryd.func24, rfl, Tryd.call24, rfl, rfl, rfl⟩
theorem ft25 : FnText Tryd.prog 25 Tryd.f25 2 := ⟨Tryd.func25, rfl, Tryd.call25, rfl, rfl, rfl⟩
theorem ft26 : FnText Tryd.prog 26 Tryd.f26 1 := ⟨Tryd.func26, rfl, Tryd.call26, rfl, rfl, rfl⟩
theorem ft27 : FnText Tryd.prog 27 Tryd.f27 4 := ⟨Tryd.func27, rfl, Tryd.call27, rfl, rfl, rfl⟩
theorem ft28 : FnText Tryd.prog 28 Tryd.f28 3 := ⟨Tryd.func28, rfl, Tryd.call28, rfl, rfl, rfl⟩
theorem ft29 : FnText Tryd.prog 29 Tryd.f29 4 := ⟨Tryd.func29, rfl, Tryd.call29, rfl, rfl, rfl⟩
theorem ft30 : FnText Tryd.prog 30 Tryd.f30 1 := ⟨Tryd.func30, rfl, Tryd.call30, rfl, rfl, rfl⟩
theorem ft31 : FnText Tryd.prog 31 Tryd.f31 2 := ⟨Tryd.func31, rfl, Tryd.call31, rfl, rfl, rfl⟩
theorem ft32 : FnText Tryd.prog 32 Tryd.f32 1 := ⟨Tryd.func32, rfl, Tryd.call32, rfl, rfl, rfl⟩
theorem ft49 : FnText Tryd.prog 49 Tryd.f49 4 := ⟨Tryd.func49, rfl, Tryd.call49, rfl, rfl, rfl⟩
theorem ft50 : FnText Tryd.prog 50 Tryd.f50 2 := ⟨Tryd.func50, rfl, Tryd.call50, rfl, rfl, rfl⟩
theorem ft51 : FnText Tryd.prog 51 Tryd.f51 2 := ⟨Tryd.func51, rfl, Tryd.call51, rfl, rfl, rfl⟩
theorem ft52 : FnText Tryd.prog 52 Tryd.f52 1 := ⟨Tryd.func52, rfl, Tryd.call52, rfl, rfl, rfl⟩
theorem ft53 : FnText Tryd.prog 53 Tryd.f53 3 := ⟨Tryd.func53, rfl, Tryd.call53, rfl, rfl, rfl⟩
end Go.Proofs.Aw

/- A PART OF THE PROOF: an abstract run of the loaded code over value trees, and the functions walked by it. No condition of its own. -/
import Derived.Test.YtanmknmlphkeaaaDoorD0
namespace Go.Proofs.Aw
open Go Go.Proofs
set_option maxRecDepth 100000
theorem ft3 : FnText Tryd.prog 3 Tryd.f3 1 := ⟨Tryd.func3, rfl, Tryd.call3, rfl, rfl, rfl⟩
theorem ft6 : FnText Tryd.prog 6 Tryd.f6 0 := ⟨Tryd.func6, rfl, Tryd.call6, rfl, rfl, rfl⟩
theorem ft7 : FnText Tryd.prog 7 Tryd.f7 1 := ⟨Tryd.func7, rfl, Tryd.call7, rfl, rfl, rfl⟩
theorem ft8 : FnText Tryd.prog 8 Tryd.f8 1 := ⟨Tryd.func8, rfl, Tryd.call8, rfl, rfl, rfl⟩
theorem ft9 : FnText Tryd.prog 9 Tryd.f9 2 := ⟨Tryd.func9, rfl, Tryd.call9, rfl, rfl, rfl⟩
theorem ft10 : FnText Tryd.prog 10 Tryd.f10 1 := ⟨Tryd.func10, rfl, Tryd.call10, rfl, rfl, rfl⟩
theorem ft18 : FnText Tryd.prog 18 Tryd.f18 1 := ⟨Tryd.func18, rfl, Tryd.call18, rfl, rfl, rfl⟩
theorem ft19 : FnText Tryd.prog 19 Tryd.f19 1 := ⟨Tryd.func19, rfl, Tryd.call19, rfl, rfl, rfl⟩
theorem ft20 : FnText Tryd.prog 20 Tryd.f20 2 := ⟨Tryd.func20, rfl, Tryd.call20, rfl, rfl, rfl⟩
theorem ft21 : FnText Tryd.prog 21 Tryd.f21 1 := ⟨Tryd.func21, rfl, Tryd.call21, rfl, rfl, rfl⟩
theorem ft22 : FnText Tryd.prog 22 Tryd.f22 2 := ⟨Tryd.func22, rfl, Tryd.call22, rfl, rfl, rfl⟩
theorem ft43 : FnText Tryd.prog 43 Tryd.f43 2 := ⟨Tryd.func43, rfl, Tryd.call43, rfl, rfl, rfl⟩
theorem ft44 : FnText Tryd.prog 44 Tryd.f44 1 := ⟨Tryd.func44, rfl, Tryd.call44, rfl, rfl, rfl⟩
theorem ft45 : FnText Tryd.prog 45 Tryd.f45 2 := ⟨Tryd.func45, rfl, Tryd.call45, rfl, rfl, rfl⟩
theorem ft46 : FnText Tryd.prog 46 Tryd.f46 1 := ⟨Tryd.func46, rfl, Tryd.call46, rfl, rfl, rfl⟩
theorem ft47 : FnText Tryd.prog 47 Tryd.f47 1 := ⟨Tryd.func47, rfl, Tryd.call47, rfl, rfl, rfl⟩
theorem ft48 : FnText Tryd.prog 48 Tryd.f48 1 := ⟨Tryd.func48, rfl, Tryd.call48, rfl, rfl, rfl⟩
theorem ft60 : FnText Tryd.prog 60 Tryd.f60 1 := ⟨Tryd.func60, rfl, Tryd.call60, rfl, rfl, rfl⟩
end Go.Proofs.Aw

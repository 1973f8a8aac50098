/- Closed facts of the row of amsNil, each by the kernel. -/
import Derived.Test.YtfpngbjjogionaaGreatDoorRows
import Derived.JoinedOf
namespace Go.Proofs.YtfpngbjjogionaaGreatDoor.amsNil
open Go
set_option maxRecDepth 1000000 in
theorem k0 : (Rows.amsNilRow.wf (OpenSpec.ofChange Rows.amsNilSpec)) = true := by kernel_rfl
set_option maxRecDepth 1000000 in
theorem k2 : (mapsRowed Tryz.pinned.checked.prog) = true := by kernel_rfl
set_option maxRecDepth 1000000 in
theorem k3 : (Tryz.f3.params.all (Tryz.pinned.checked.prog.readableRec ·)) = true := by kernel_rfl
set_option maxRecDepth 1000000 in
theorem k4 : (namedTie Tryz.pinned.checked.prog Rows.amsNilRow.named Rows.amsNilSpec.vars) = true := by kernel_rfl
set_option maxRecDepth 1000000 in
theorem k5 : ((Rows.amsNilRow.stops == [])) = true := by kernel_rfl
set_option maxRecDepth 1000000 in
theorem k6 : ((Tryz.pinned.checked.prog.stops == [])) = true := by kernel_rfl
set_option maxRecDepth 1000000 in
theorem k7 : ((Rows.amsNilRow.knobs == [])) = true := by kernel_rfl
set_option maxRecDepth 1000000 in
theorem k8 : ((Tryz.pinned.checked.prog.stopKnobs == [])) = true := by kernel_rfl
end Go.Proofs.YtfpngbjjogionaaGreatDoor.amsNil
/- Closed facts of the row of amsNil, each by the kernel. -/
namespace Go.Proofs.YtfpngbjjogionaaGreatDoor.amsNil
open Go
set_option maxRecDepth 1000000 in
theorem k13 : ((Rows.amsNilRow.maps == (Tryz.f3.params.toList ++ Rows.amsNilSpec.plain.varTypes Tryz.pinned.checked.prog).any (Tryz.pinned.checked.prog.mapsRec ·))) = true := by kernel_rfl
set_option maxRecDepth 1000000 in
theorem k14 : ((Rows.amsNilRow.ifaces == (Tryz.f3.params.toList ++ Rows.amsNilSpec.plain.varTypes Tryz.pinned.checked.prog).any (Tryz.pinned.checked.prog.ifacesRec ·))) = true := by kernel_rfl
set_option maxRecDepth 1000000 in
theorem k15 : ((Rows.amsNilRow.mapsOut == Tryz.pinned.checked.prog.mapsAmong Tryz.f3.resultTypes.toList)) = true := by kernel_rfl
set_option maxRecDepth 1000000 in
theorem k16 : ((Rows.amsNilRow.loops == (Tryz.f3.params.toList ++ Rows.amsNilSpec.plain.varTypes Tryz.pinned.checked.prog).any (Tryz.pinned.checked.prog.loopsFrom ·))) = true := by kernel_rfl
set_option maxRecDepth 1000000 in
theorem k17 : ((Rows.amsNilRow.wideKeys == (Tryz.f3.params.toList ++ Rows.amsNilSpec.plain.varTypes Tryz.pinned.checked.prog ++ Tryz.f3.resultTypes.toList).any (Tryz.pinned.checked.prog.wideKeysFrom ·))) = true := by kernel_rfl
set_option maxRecDepth 1000000 in
theorem k18 : (Rows.amsNilSpec.vars.all (Tryz.pinned.checked.prog.varReadable ·)) = true := by kernel_rfl
end Go.Proofs.YtfpngbjjogionaaGreatDoor.amsNil

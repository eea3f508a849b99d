/- The abstract machine answers true where one is asked; conditions: none. -/
import Derived.Test.YtbhjokfopgbmiaaGreatDoorRunA
import Derived.Test.YtbhjokfopgbmiaaGreatDoorProg
namespace Go.Proofs.YtbhjokfopgbmiaaGreatDoor.checkTime

theorem run_false : Ax.call (ρ := Bool) (Ax.ftOf Tryz.prog) (Ax.hookOf (Ax.ftOf Tryz.prog) joined 100000) 100000 3 [.tok .i64 0, .tok .i64 1, .bool false] .e 6 Ax.isT = true := by kernel_rfl
end Go.Proofs.YtbhjokfopgbmiaaGreatDoor.checkTime

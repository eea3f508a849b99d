/- The abstract machine answers true where both are asked; conditions: none. -/
import Derived.Test.YtbhjokfopgbmiaaGreatDoorAxHook
import Derived.Test.YtbhjokfopgbmiaaGreatDoorProg
namespace Go.Proofs.YtbhjokfopgbmiaaGreatDoor.checkTime

/-- The function whose paths are joined: the one that looks for an order. -/
noncomputable def joined : Nat → Bool := fun f => Nat.rec false (fun _ _ => Nat.beq f 4) f

theorem run_true : Ax.call (ρ := Bool) (Ax.ftOf Tryz.prog) (Ax.hookOf (Ax.ftOf Tryz.prog) joined 100000) 100000 3 [.tok .i64 0, .tok .i64 1, .bool true] .e 6 Ax.isT = true := by kernel_rfl
end Go.Proofs.YtbhjokfopgbmiaaGreatDoor.checkTime

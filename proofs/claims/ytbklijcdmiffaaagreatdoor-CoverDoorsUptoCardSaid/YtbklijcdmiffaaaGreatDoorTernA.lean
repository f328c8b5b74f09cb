/-
  tern: the parts of Parse.
-/
import Derived.Test.YtbklijcdmiffaaaGreatDoorProg
import Derived.Test.YtbklijcdmiffaaaGreatDoorBase
import Derived.StillTailTactics
import Derived.WalkKit
import Derived.WalkSpells
import Derived.WalkLawsBesides
import Derived.Deep.QuietTactic
import Derived.BigQuiet
import Derived.Lib.Hide
import Derived.Deep.LoopGhost
namespace Go.Proofs.YtbklijcdmiffaaaGreatDoor
open Go.RowKit

set_option maxRecDepth 100000 in
set_option maxHeartbeats 400000 in
theorem put_any (g off q r : Nat) (i W : Int) (w : World) (hi : i = 64 * q + r) (hq4 : q < 4) (hr64 : r < 64) (hc : w.cell? ⟨g, off + q, none⟩ = some (.int .u64 W)) (hf : w.frozen? ⟨g, off + q, none⟩ = false) :
    Calls Tryz.prog 57 #[.pointer (some ⟨g, off, none⟩), .int .i64 i] w fun e w' => e = .returned (.tuple #[]) ∧ (w.setCell ⟨g, off + q, none⟩ (.int .u64 (bits .or .u64 W (IntKind.u64.wrap (2 ^ r))))).drew = w' := by
  have hq : IntKind.i64.wrap (i.tdiv 64) = q := by
    rw [Int.tdiv_eq_ediv_of_nonneg (by omega), IntKind.wrap_i64]
    omega
  have hr : i.tmod 64 = r := by
    rw [Int.tmod_eq_emod_of_nonneg (by omega)]
    omega
  have hq4i : (q : Int) < 4 := by omega
  have hr64i : (r : Int) < 64 := by omega
  have hi0 : 0 ≤ i := by omega
  have hi1 : i < 256 := by omega
  have HI := Lib.hid hi
  clear hi
  go_enter Tryz.func57, Tryz.ntmps57
  go_still_tail 12, (by kernel_rfl)
  change wpList _ _ _ _ _ w.drew
  go_wp2
  go_end0
  exact ⟨rfl, rfl⟩
end Go.Proofs.YtbklijcdmiffaaaGreatDoor

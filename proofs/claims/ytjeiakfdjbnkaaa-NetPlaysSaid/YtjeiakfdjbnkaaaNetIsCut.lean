/-
  The walks of the network's IsCut and Take.
-/
import Derived.Test.YtjeiakfdjbnkaaaNetCutWalks
import Derived.Deep.RegionLaw
import Derived.Lib.SlBytesConst
import Derived.WalkKit
import Derived.WalkSpells
import Derived.WalkLawsBesides
import Derived.Below
import Derived.Lib.Hide
import Derived.Deep.AppendLies
import Derived.Outline
import Derived.Deep.RegionWith
namespace Go.Proofs.Ytjeiakfdjbnkaaa
open Go.RowKit
set_option linter.unusedVariables false

set_option maxRecDepth 100000 in
set_option maxHeartbeats 400000 in
theorem iscut_calls (fp : List Nat) (B : Nat) (s : NS) (w : World) (x y : Int) (hn : NetAt w fp B s) :
    Calls Try.prog 31 #[.pointer (some ⟨B, 0, none⟩), .int .i64 x, .int .i64 y] w fun e w' => e = .returned (.bool (hasWay s.cut (btw x y))) ∧ Below w.heap.size w w' := by
  obtain ⟨a, cap, mb, rfl, hnd, hB, hown, hmap, hcut, hlen, hsent, hcame⟩ := hn
  obtain ⟨c0, c1, c2, c3, cf⟩ := netCell hB
  have HM := Lib.hid hmap
  clear hmap hown hB hnd c0 c2 c3 cf
  go_enter Try.func31, Try.ntmps31
  go_wp2_with fail
  go_region_with (go_at_call 38; refine (between_calls _ _ _).mono ?_; rintro e w1 ⟨rfl, hb1⟩; have d1 := cell_blw (w := w.drew) hb1 c1; have hlk : (Instr.lookup 63 (.map (some mb)) (wayV (btw x y)) false).run Try.prog w1 = .ok (.bool (hasWay s.cut (btw x y))) w1 := run_lookup_way w1 mb s.cut (HM.out.below (w := w.drew) hb1) (btw x y); have HB1 := Lib.hid hb1; clear hb1)
  all_goals
    clear c1 d1 hlk
    go_wp2_with fail
    go_ret
    exact ⟨rfl, (Below.refl w.heap.size w).drew.trans HB1.out⟩

end Go.Proofs.Ytjeiakfdjbnkaaa

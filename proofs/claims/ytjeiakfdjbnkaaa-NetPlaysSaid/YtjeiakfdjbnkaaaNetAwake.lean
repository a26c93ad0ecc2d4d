/-
  The walk of the laws' awake: the document's example.
-/
import Derived.Test.YtjeiakfdjbnkaaaNetTake
import Derived.WalkKit
import Derived.WalkSpells
import Derived.WalkLawsBesides
import Derived.Below
import Derived.Lib.Hide
import Derived.Outline
namespace Go.Proofs.Ytjeiakfdjbnkaaa
open Go.RowKit
set_option linter.unusedVariables false

def pkA : Pk := ⟨1, 2, ⟨#[97]⟩⟩
def pkB : Pk := ⟨2, 1, ⟨#[98]⟩⟩

set_option maxRecDepth 100000 in
set_option maxHeartbeats 400000 in
theorem awake_calls (w : World) :
    Calls Try.prog 19 #[] w fun e w' => e = .returned (.bool true) ∧ Below w.heap.size w w' := by
  go_enter Try.func19, Try.ntmps19
  go_wp2_with fail
  refine (new_calls _).mono ?_
  rintro e w1 ⟨B, fp, rfl, hn1, hf1⟩
  have HN1 := Lib.hid hn1
  have HF1 := Lib.hid hf1
  clear hn1 hf1
  go_wp2_with fail
  refine (send_calls fp B _ _ pkA HN1.out (by simp) (by simp)).mono ?_
  rintro e w2 ⟨fp2, rfl, hn2, hf2⟩
  have HN2 : Hid (NetAt w2 fp2 B ⟨[pkA], [], 1, 0⟩) := hn2
  have HF2 := Lib.hid (HF1.out.trans hf2)
  clear hn2 hf2
  go_wp2_with fail
  refine (send_calls fp2 B _ _ pkB HN2.out (by simp) (by simp)).mono ?_
  rintro e w3 ⟨fp3, rfl, hn3, hf3⟩
  have HN3 : Hid (NetAt w3 fp3 B ⟨[pkA, pkB], [], 2, 0⟩) := hn3
  have HF3 := Lib.hid (HF2.out.trans hf3)
  clear hn3 hf3
  go_wp2_with fail
  refine (double_yes fp3 B _ _ 0 HN3.out (by simp) (by simp)).mono ?_
  rintro e w4 ⟨fp4, rfl, hn4, hf4⟩
  have HN4 : Hid (NetAt w4 fp4 B ⟨[pkA, pkB, pkA], [], 2, 0⟩) := hn4
  have HF4 := Lib.hid (HF3.out.trans hf4)
  clear hn4 hf4
  go_wp2_with fail
  have hT : Calls Try.prog 27 #[.pointer (some ⟨B, 0, none⟩), .int .i64 1] w4 (Did (.tuple #[.agg #[.int .i64 2, .int .i64 1, .string ⟨#[98]⟩], .bool true]) w4 fp4 B ⟨[pkA, pkA], [], 2, 1⟩) :=
    take_yes fp4 B ⟨[pkA, pkB, pkA], [], 2, 0⟩ w4 1 HN4.out (by simp) (by simp) (by rfl)
  refine hT.mono ?_
  rintro e w5 ⟨fp5, rfl, hn5, hf5⟩
  have HN5 := Lib.hid hn5
  have HF5 := Lib.hid (HF4.out.trans hf5)
  clear hn5 hf5 hT
  have HN6 := Lib.hid (NetAt.below HN5.out ((Below.refl _ w5).alloc (Nat.le_refl _) (.cells #[.int .i64 2, .int .i64 1, .string ⟨#[98]⟩] 40)))
  have HE : Hid (Below w.heap.size w (w5.alloc (.cells #[.int .i64 2, .int .i64 1, .string ⟨#[98]⟩] 40))) := (HF5.out.below (Nat.le_refl _) (by simp)).alloc HF5.out.size _
  go_wp2_with fail
  refine (len_calls _ _ _ _ HN6.out).mono ?_
  rintro e w' ⟨rfl, rfl⟩
  go_wp2_with fail
  go_ret
  exact ⟨rfl, HE.out⟩

end Go.Proofs.Ytjeiakfdjbnkaaa

/-
  The walks of the network's methods when it is called on no network.
-/
import Derived.Test.YtjeiakfdjbnkaaaNetAwake
import Derived.WalkKit
import Derived.WalkSpells
import Derived.WalkLawsBesides
import Derived.Below
import Derived.Lib.Hide
import Derived.Outline
import Derived.Deep.QuietTactic
import Derived.BigQuiet
namespace Go.Proofs.Ytjeiakfdjbnkaaa
open Go.RowKit
set_option linter.unusedVariables false

set_option maxRecDepth 100000 in
set_option maxHeartbeats 400000 in
theorem nil_cut (x y : Int) (w : World) : Calls Try.prog 28 #[.pointer none, .int .i64 x, .int .i64 y] w fun e w' => (∃ v, e = .returned v) ∧ w = w' := by
  go_enter Try.func28, Try.ntmps28
  go_wp2_with fail
  go_end0
  exact ⟨⟨_, rfl⟩, rfl⟩

set_option maxRecDepth 100000 in
set_option maxHeartbeats 400000 in
theorem nil_join (x y : Int) (w : World) : Calls Try.prog 29 #[.pointer none, .int .i64 x, .int .i64 y] w fun e w' => (∃ v, e = .returned v) ∧ w = w' := by
  go_enter Try.func29, Try.ntmps29
  go_wp2_with fail
  go_end0
  exact ⟨⟨_, rfl⟩, rfl⟩

set_option maxRecDepth 100000 in
set_option maxHeartbeats 400000 in
theorem nil_heal (w : World) : Calls Try.prog 30 #[.pointer none] w fun e w' => (∃ v, e = .returned v) ∧ w = w' := by
  go_enter Try.func30, Try.ntmps30
  go_wp2_with fail
  go_end0
  exact ⟨⟨_, rfl⟩, rfl⟩

set_option maxRecDepth 100000 in
set_option maxHeartbeats 400000 in
theorem nil_len (w : World) : Calls Try.prog 23 #[.pointer none] w fun e w' => e = .returned (.int .i64 0) ∧ w = w' := by
  go_enter Try.func23, Try.ntmps23
  go_wp2_with fail
  go_ret
  exact ⟨rfl, rfl⟩

set_option maxRecDepth 100000 in
set_option maxHeartbeats 400000 in
theorem nil_sent (w : World) : Calls Try.prog 24 #[.pointer none] w fun e w' => e = .returned (.int .i64 0) ∧ w = w' := by
  go_enter Try.func24, Try.ntmps24
  go_wp2_with fail
  go_ret
  exact ⟨rfl, rfl⟩

set_option maxRecDepth 100000 in
set_option maxHeartbeats 400000 in
theorem nil_came (w : World) : Calls Try.prog 33 #[.pointer none] w fun e w' => e = .returned (.int .i64 0) ∧ w = w' := by
  go_enter Try.func33, Try.ntmps33
  go_wp2_with fail
  go_ret
  exact ⟨rfl, rfl⟩

set_option maxRecDepth 100000 in
set_option maxHeartbeats 400000 in
theorem nil_iscut (x y : Int) (w : World) : Calls Try.prog 31 #[.pointer none, .int .i64 x, .int .i64 y] w fun e w' => e = .returned (.bool false) ∧ Below w.heap.size w w' := by
  go_enter Try.func31, Try.ntmps31
  go_wp2_with fail
  go_quiet (fail)
  all_goals
    go_wp2_with fail
    go_ret
    exact ⟨rfl, (Below.refl w.heap.size w).trans ⟨rfl, rfl, rfl, Nat.le_refl _, fun _ _ => rfl⟩⟩

set_option maxRecDepth 100000 in
set_option maxHeartbeats 400000 in
theorem nil_send (x y : Int) (s : ByteArray) (w : World) : Calls Try.prog 21 #[.pointer none, .int .i64 x, .int .i64 y, .string s] w fun e w' => e = .returned (.bool false) ∧ Below w.heap.size w w' := by
  go_enter Try.func21, Try.ntmps21
  go_wp2_with fail
  go_ret
  exact ⟨rfl, Below.refl _ _⟩

set_option maxRecDepth 100000 in
set_option maxHeartbeats 400000 in
theorem nil_look (i : Int) (w : World) : Calls Try.prog 26 #[.pointer none, .int .i64 i] w fun e w' => e = .returned (.tuple #[Pk.zero.val, .bool false]) ∧ Below w.heap.size w w' := by
  by_cases h0 : i < 0
  · go_enter Try.func26, Try.ntmps26
    go_wp2_with fail
    exact bodyPost_ret (v := .tuple #[Pk.zero.val, .bool false]) (by simp [results, Try.results26, go_sem]; rfl) rfl ⟨rfl, (Below.refl _ _).alloc (Nat.le_refl _) _⟩
  · have h1 : (0 : Int) ≤ i := by omega
    go_enter Try.func26, Try.ntmps26
    go_wp2_with fail
    refine (nil_len _).mono ?_
    rintro e w' ⟨rfl, rfl⟩
    go_wp2_with fail
    exact bodyPost_ret (v := .tuple #[Pk.zero.val, .bool false]) (by simp [results, Try.results26, go_sem]; rfl) rfl ⟨rfl, (Below.refl _ _).alloc (Nat.le_refl _) _⟩

set_option maxRecDepth 100000 in
set_option maxHeartbeats 400000 in
theorem nil_lose (i : Int) (w : World) : Calls Try.prog 25 #[.pointer none, .int .i64 i] w fun e w' => e = .returned (.bool false) ∧ Below w.heap.size w w' := by
  go_enter Try.func25, Try.ntmps25
  go_wp2_with fail
  refine (nil_look _ _).mono ?_
  rintro e w1 ⟨rfl, hb1⟩
  have HB := Lib.hid hb1
  have hsz := hb1.size
  clear hb1
  unfold Pk.val Pk.zero
  go_wp2_with fail
  go_ret
  exact ⟨rfl, HB.out.alloc hsz _⟩

set_option maxRecDepth 100000 in
set_option maxHeartbeats 400000 in
theorem nil_double (i : Int) (w : World) : Calls Try.prog 22 #[.pointer none, .int .i64 i] w fun e w' => e = .returned (.bool false) ∧ Below w.heap.size w w' := by
  go_enter Try.func22, Try.ntmps22
  go_wp2_with fail
  refine (nil_look _ _).mono ?_
  rintro e w1 ⟨rfl, hb1⟩
  have HB := Lib.hid hb1
  have hsz := hb1.size
  clear hb1
  unfold Pk.val Pk.zero
  go_wp2_with fail
  go_ret
  exact ⟨rfl, HB.out.alloc hsz _⟩

set_option maxRecDepth 100000 in
set_option maxHeartbeats 400000 in
theorem nil_take (i : Int) (w : World) :
    Calls Try.prog 27 #[.pointer none, .int .i64 i] w fun e w' => e = .returned (.tuple #[Pk.zero.val, .bool false]) ∧ Below w.heap.size w w' := by
  have hb0 : Below w.heap.size w (w.alloc (.cells #[.int .i64 0, .int .i64 0, .string ByteArray.empty] 40)) := (Below.refl _ w).alloc (Nat.le_refl _) _
  have HB0 := Lib.hid hb0
  clear hb0
  go_enter Try.func27, Try.ntmps27
  go_wp2_with fail
  refine (nil_look _ _).mono ?_
  rintro e w1 ⟨rfl, hb1⟩
  have hsz : w.heap.size < w1.heap.size := by have := hb1.size; simp at this; omega
  have d : w1.heap[w.heap.size]? = some (.cells #[.int .i64 0, .int .i64 0, .string ByteArray.empty] 40 (0, 0)) := (hb1.block _ (by simp)).trans (heap_alloc_new w _)
  have HB1 := Lib.hid hb1
  clear hb1
  unfold Pk.val Pk.zero
  go_wp2_with fail
  refine (nil_lose _ _).mono ?_
  rintro e w2 ⟨rfl, hb2⟩
  have d2 : w2.heap[w.heap.size]? = some (.cells #[.int .i64 0, .int .i64 0, .string ByteArray.empty] 40 (0, 0)) := (hb2.block _ (by simp; omega)).trans ((Below.heap_alloc _ _ _ hsz).trans d)
  obtain ⟨e0, e1, e2, ef⟩ := box3 d2
  have HE : Hid (Below w.heap.size w w2) := ((HB0.out.trans (HB1.out.mono (by simp))).alloc (by omega) _).trans (hb2.mono (by simp; omega))
  clear hb2 d d2
  go_wp2_with fail
  exact bodyPost_ret (v := .tuple #[Pk.zero.val, .bool false]) (by simp [results, Try.results27, go_sem, e0, e1, e2]; rfl) rfl ⟨rfl, ((HE.out.setCell (p := ⟨w.heap.size, 0, none⟩) (Nat.le_refl _) _).setCell (p := ⟨w.heap.size, 1, none⟩) (Nat.le_refl _) _).setCell (p := ⟨w.heap.size, 2, none⟩) (Nat.le_refl _) _⟩

end Go.Proofs.Ytjeiakfdjbnkaaa

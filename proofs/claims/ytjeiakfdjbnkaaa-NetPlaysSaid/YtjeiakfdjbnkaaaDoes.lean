/-
  The walks of the law's does, one for each kind of operation.
-/
import Derived.Test.YtjeiakfdjbnkaaaDoAt
import Derived.WalkKit
import Derived.WalkSpells
import Derived.WalkLawsBesides
import Derived.Below
import Derived.Lib.Hide
import Derived.Outline
import Derived.BigQuiet
import Derived.Deep.RegionHeld3
import Derived.Deep.DrawnRows
namespace Go.Proofs.Ytjeiakfdjbnkaaa
open Go.RowKit
set_option linter.unusedVariables false
attribute [local go_sem ↓] Go.wp_at_zero Go.wp_at_succ

set_option maxRecDepth 100000 in
set_option maxHeartbeats 1000000 in
theorem does_send (fn fr : List Nat) (B R : Nat) (s : NS) (r : RS) (w : World) (x y : Int) (t : ByteArray) (h : Side w fn fr B R s r) (hl : Like s r) (hs : s.sent < 5000) :
    Calls Try.prog 32 #[.pointer (some ⟨B, 0, none⟩), .pointer (some ⟨R, 0, none⟩), .agg #[.int .i64 0, .int .i64 x, .int .i64 y, .string t]] w fun e w' => e = .returned (.bool true) ∧ Both fn fr B R s r w w' := by
  have hd := DoAt.start ⟨0, x, y, t⟩ h
  have hd2 := hd.drew
  have hrs : r.sent < 5000 := by rw [hl.2.1]; exact hs
  have HL := Lib.hid hl
  obtain ⟨c0, c1, c2, c3⟩ := hd.cells
  clear h hl hd
  go_enter Try.func32, Try.ntmps32
  go_wp2_with fail
  go_region_held3 (fun w' => w'.cell? ⟨w.heap.size, 1, none⟩ = some (.int .i64 x) ∧ w'.cell? ⟨w.heap.size, 2, none⟩ = some (.int .i64 y) ∧ w'.cell? ⟨w.heap.size, 3, none⟩ = some (.string t))
    (first | go_keep | exact (DoAt.cells (by assumption)).2)
    (first
      | (go_at_call 21; refine (send_do w (fn ++ fr) w.heap.size ⟨0, x, y, t⟩ B R _ _ _ _ _ x y t (by assumption) hs).mono ?_; rintro e w' ⟨b, f2, s2, rfl, hd3, hb⟩)
      | (go_at_call 39; refine (refsend_do w (fn ++ fr) w.heap.size ⟨0, x, y, t⟩ B R _ _ _ _ _ x y t (by assumption) hrs).mono ?_; rintro e w' ⟨c, f2, r2, rfl, hd3, hc⟩))
  have hlike := sent_like HL.out hb.out hc.out
  obtain ⟨rfl, hlike⟩ := hlike
  have HB := Lib.hid (hd3.both hlike)
  clear hlike hd3 hb hc hd2 c0 c1 c2 c3
  simp only [beq_self_eq_true]
  go_wp2_with fail
  go_ret
  exact ⟨rfl, HB.out⟩

set_option maxRecDepth 100000 in
set_option maxHeartbeats 1000000 in
theorem does_lose (fn fr : List Nat) (B R : Nat) (s : NS) (r : RS) (w : World) (x y : Int) (t : ByteArray) (h : Side w fn fr B R s r) (hl : Like s r) (hs : s.sent < 5000) :
    Calls Try.prog 32 #[.pointer (some ⟨B, 0, none⟩), .pointer (some ⟨R, 0, none⟩), .agg #[.int .i64 2, .int .i64 x, .int .i64 y, .string t]] w fun e w' => e = .returned (.bool true) ∧ Both fn fr B R s r w w' := by
  have hd := DoAt.start ⟨2, x, y, t⟩ h
  have hd2 := hd.drew
  have hrs : r.sent < 5000 := by rw [hl.2.1]; exact hs
  have HL := Lib.hid hl
  obtain ⟨c0, c1, c2, c3⟩ := hd.cells
  clear h hl hd
  go_enter Try.func32, Try.ntmps32
  go_wp2_with fail
  go_region_held3 (fun w' => w'.cell? ⟨w.heap.size, 1, none⟩ = some (.int .i64 x))
    (first | go_keep | exact (DoAt.cells (by assumption)).2.1)
    (first
      | (go_at_call 25; refine (lose_do w (fn ++ fr) w.heap.size ⟨2, x, y, t⟩ B R _ _ _ _ _ x (by assumption)).mono ?_; rintro e w' ⟨b, f2, s2, rfl, hd3, hb⟩)
      | (go_at_call 41; refine (reflose_do w (fn ++ fr) w.heap.size ⟨2, x, y, t⟩ B R _ _ _ _ _ x (by assumption)).mono ?_; rintro e w' ⟨c, f2, r2, rfl, hd3, hc⟩))
  have hlike := lost_like HL.out hb.out hc.out
  obtain ⟨rfl, hlike⟩ := hlike
  have HB := Lib.hid (hd3.both hlike)
  clear hlike hd3 hb hc hd2 c0 c1 c2 c3
  simp only [beq_self_eq_true]
  go_wp2_with fail
  go_ret
  exact ⟨rfl, HB.out⟩

set_option maxRecDepth 100000 in
set_option maxHeartbeats 1000000 in
theorem does_double (fn fr : List Nat) (B R : Nat) (s : NS) (r : RS) (w : World) (x y : Int) (t : ByteArray) (h : Side w fn fr B R s r) (hl : Like s r) (hs : s.sent < 5000) :
    Calls Try.prog 32 #[.pointer (some ⟨B, 0, none⟩), .pointer (some ⟨R, 0, none⟩), .agg #[.int .i64 3, .int .i64 x, .int .i64 y, .string t]] w fun e w' => e = .returned (.bool true) ∧ Both fn fr B R s r w w' := by
  have hd := DoAt.start ⟨3, x, y, t⟩ h
  have hd2 := hd.drew
  have hrs : r.sent < 5000 := by rw [hl.2.1]; exact hs
  have HL := Lib.hid hl
  obtain ⟨c0, c1, c2, c3⟩ := hd.cells
  clear h hl hd
  go_enter Try.func32, Try.ntmps32
  go_wp2_with fail
  go_region_held3 (fun w' => w'.cell? ⟨w.heap.size, 1, none⟩ = some (.int .i64 x))
    (first | go_keep | exact (DoAt.cells (by assumption)).2.1)
    (first
      | (go_at_call 22; refine (double_do w (fn ++ fr) w.heap.size ⟨3, x, y, t⟩ B R _ _ _ _ _ x (by assumption)).mono ?_; rintro e w' ⟨b, f2, s2, rfl, hd3, hb⟩)
      | (go_at_call 42; refine (refdouble_do w (fn ++ fr) w.heap.size ⟨3, x, y, t⟩ B R _ _ _ _ _ x (by assumption)).mono ?_; rintro e w' ⟨c, f2, r2, rfl, hd3, hc⟩))
  have hlike := twice_like HL.out hb.out hc.out
  obtain ⟨rfl, hlike⟩ := hlike
  have HB := Lib.hid (hd3.both hlike)
  clear hlike hd3 hb hc hd2 c0 c1 c2 c3
  simp only [beq_self_eq_true]
  go_wp2_with fail
  go_ret
  exact ⟨rfl, HB.out⟩

end Go.Proofs.Ytjeiakfdjbnkaaa

/-
  For every op the law NetNone returns true (a nil network has nothing). No condition.
-/
import Derived.Test.YtjeiakfdjbnkaaaNetNil
import Derived.WalkKit
import Derived.WalkSpells
import Derived.WalkLawsBesides
import Derived.Below
import Derived.Lib.Hide
import Derived.Outline
import Derived.Deep.RegionWith
import Derived.OpenShut
import Derived.ShutString
import Derived.ChangeOld
import Derived.Lib.SmallJoins
import Derived.ProofKit
import Derived.Carry
namespace Go.Proofs.Ytjeiakfdjbnkaaa.netNone
open Go.ChangeShapes Go.WideShapes Go.ChangeAt Go.RowKit Go.Joins
set_option linter.unusedVariables false

theorem own : ownKnob Try.prog.godebug = none := by kernel_rfl
theorem laidOut : laidOutB Try.prog = true := by kernel_rfl
theorem box4 {w : World} {b : Nat} {x y z u : Value} {t : TypeId} (h : w.heap[b]? = some (.cells #[x, y, z, u] t (0, 0))) :
    w.cell? ⟨b, 0, none⟩ = some x ∧ w.cell? ⟨b, 1, none⟩ = some y ∧ w.cell? ⟨b, 2, none⟩ = some z ∧ w.cell? ⟨b, 3, none⟩ = some u := by
  refine ⟨?_, ?_, ?_, ?_⟩ <;> rw [cell_of_row w b _ _ t (0, 0) h] <;> rfl

set_option maxRecDepth 100000 in
set_option maxHeartbeats 400000 in
theorem walk (k x y : Int) (s : ByteArray) (W : World) :
    Calls Try.prog 12 #[.agg #[.int .i64 k, .int .i64 x, .int .i64 y, .string s]] W fun e W' => e = .returned (.bool true) ∧ Below W.heap.size W W' := by
  have hb0 : Below W.heap.size W (W.alloc (.cells #[.int .i64 k, .int .i64 x, .int .i64 y, .string s] 47)) := (Below.refl _ W).alloc (Nat.le_refl _) _
  have HB0 := Lib.hid hb0
  have hsz0 : W.heap.size < (W.alloc (.cells #[.int .i64 k, .int .i64 x, .int .i64 y, .string s] 47)).heap.size := by simp
  have hbx : (W.alloc (.cells #[.int .i64 k, .int .i64 x, .int .i64 y, .string s] 47)).heap[W.heap.size]? = some (.cells #[.int .i64 k, .int .i64 x, .int .i64 y, .string s] 47 (0, 0)) := heap_alloc_new W _
  have HX := Lib.hid hbx
  have HS0 := Lib.hid hsz0
  clear hb0 hbx hsz0
  go_enter Try.func12, Try.ntmps12
  go_wp2_with fail
  refine (awake_calls _).mono ?_
  rintro e w1 ⟨rfl, hb1⟩
  have hx1 : w1.heap[W.heap.size]? = some (.cells #[.int .i64 k, .int .i64 x, .int .i64 y, .string s] 47 (0, 0)) := (hb1.block _ HS0.out).trans HX.out
  have HB1 : Hid (Below W.heap.size W w1 ∧ W.heap.size < w1.heap.size) := ⟨HB0.out.trans (hb1.mono (Nat.le_of_lt HS0.out)), Nat.lt_of_lt_of_le HS0.out hb1.size⟩
  obtain ⟨c0, c1, c2, c3⟩ := box4 hx1
  have HX1 := Lib.hid hx1
  clear hb1 hx1
  go_wp2_with fail
  refine (nil_cut _ _ _).mono ?_
  rintro e w' ⟨⟨v1, rfl⟩, rfl⟩
  go_wp2_with fail
  refine (nil_join _ _ _).mono ?_
  rintro e w' ⟨⟨v2, rfl⟩, rfl⟩
  go_wp2_with fail
  refine (nil_heal _).mono ?_
  rintro e w' ⟨⟨v3, rfl⟩, rfl⟩
  go_wp2_with fail
  refine (nil_look _ _).mono ?_
  rintro e w2 ⟨rfl, hb2⟩
  have hx2 : (w2.alloc (.cells #[.int .i64 0, .int .i64 0, .string ByteArray.empty] 40)).heap[W.heap.size]? = some (.cells #[.int .i64 k, .int .i64 x, .int .i64 y, .string s] 47 (0, 0)) := (Below.heap_alloc _ _ _ (Nat.lt_of_lt_of_le HB1.out.2 hb2.size)).trans ((hb2.block _ HB1.out.2).trans HX1.out)
  have HB2 : Hid (Below W.heap.size W (w2.alloc (.cells #[.int .i64 0, .int .i64 0, .string ByteArray.empty] 40)) ∧ W.heap.size < (w2.alloc (.cells #[.int .i64 0, .int .i64 0, .string ByteArray.empty] 40)).heap.size) := ⟨(HB1.out.1.trans (hb2.mono (Nat.le_of_lt HB1.out.2))).alloc (by have := hb2.size; have := HB1.out.2; omega) _, by have := hb2.size; have := HB1.out.2; simp; omega⟩
  obtain ⟨d0, d1, d2, d3⟩ := box4 hx2
  have HX2 := Lib.hid hx2
  clear hb2 hx2 c0 c1 c2 c3
  unfold Pk.val Pk.zero
  go_wp2_with fail
  refine (nil_take _ _).mono ?_
  rintro e w3 ⟨rfl, hb3⟩
  have hx3 : (w3.alloc (.cells #[.int .i64 0, .int .i64 0, .string ByteArray.empty] 40)).heap[W.heap.size]? = some (.cells #[.int .i64 k, .int .i64 x, .int .i64 y, .string s] 47 (0, 0)) := (Below.heap_alloc _ _ _ (Nat.lt_of_lt_of_le HB2.out.2 hb3.size)).trans ((hb3.block _ HB2.out.2).trans HX2.out)
  have HB3 : Hid (Below W.heap.size W (w3.alloc (.cells #[.int .i64 0, .int .i64 0, .string ByteArray.empty] 40)) ∧ W.heap.size < (w3.alloc (.cells #[.int .i64 0, .int .i64 0, .string ByteArray.empty] 40)).heap.size) := ⟨(HB2.out.1.trans (hb3.mono (Nat.le_of_lt HB2.out.2))).alloc (by have := hb3.size; have := HB2.out.2; omega) _, by have := hb3.size; have := HB2.out.2; simp; omega⟩
  obtain ⟨e0, e1, e2, e3⟩ := box4 hx3
  have HX3 := Lib.hid hx3
  clear hb3 hx3 d0 d1 d2 d3
  unfold Pk.val Pk.zero
  go_wp2_with fail
  refine (nil_send _ _ _ _).mono ?_
  rintro e w4 ⟨rfl, hb4⟩
  have hx4 : w4.heap[W.heap.size]? = some (.cells #[.int .i64 k, .int .i64 x, .int .i64 y, .string s] 47 (0, 0)) := (hb4.block _ HB3.out.2).trans HX3.out
  have HB4 : Hid (Below W.heap.size W w4 ∧ W.heap.size < w4.heap.size) := ⟨HB3.out.1.trans (hb4.mono (Nat.le_of_lt HB3.out.2)), Nat.lt_of_lt_of_le HB3.out.2 hb4.size⟩
  clear e0 e1 e2 e3
  obtain ⟨d0, d1, d2, d3⟩ := box4 hx4
  have HX4 := Lib.hid hx4
  clear hb4 hx4
  go_wp2_with fail
  refine (nil_lose _ _).mono ?_
  rintro e w5 ⟨rfl, hb5⟩
  have hx5 : w5.heap[W.heap.size]? = some (.cells #[.int .i64 k, .int .i64 x, .int .i64 y, .string s] 47 (0, 0)) := (hb5.block _ HB4.out.2).trans HX4.out
  have HB5 : Hid (Below W.heap.size W w5 ∧ W.heap.size < w5.heap.size) := ⟨HB4.out.1.trans (hb5.mono (Nat.le_of_lt HB4.out.2)), Nat.lt_of_lt_of_le HB4.out.2 hb5.size⟩
  clear d0 d1 d2 d3
  obtain ⟨e0, e1, e2, e3⟩ := box4 hx5
  have HX5 := Lib.hid hx5
  clear hb5 hx5
  go_wp2_with fail
  refine (nil_double _ _).mono ?_
  rintro e w6 ⟨rfl, hb6⟩
  have hx6 : w6.heap[W.heap.size]? = some (.cells #[.int .i64 k, .int .i64 x, .int .i64 y, .string s] 47 (0, 0)) := (hb6.block _ HB5.out.2).trans HX5.out
  have HB6 : Hid (Below W.heap.size W w6 ∧ W.heap.size < w6.heap.size) := ⟨HB5.out.1.trans (hb6.mono (Nat.le_of_lt HB5.out.2)), Nat.lt_of_lt_of_le HB5.out.2 hb6.size⟩
  clear e0 e1 e2 e3
  obtain ⟨d0, d1, d2, d3⟩ := box4 hx6
  have HX6 := Lib.hid hx6
  clear hb6 hx6
  go_wp2_with fail
  refine (nil_iscut _ _ _).mono ?_
  rintro e w7 ⟨rfl, hb7⟩
  have hx7 : w7.heap[W.heap.size]? = some (.cells #[.int .i64 k, .int .i64 x, .int .i64 y, .string s] 47 (0, 0)) := (hb7.block _ HB6.out.2).trans HX6.out
  have HB7 : Hid (Below W.heap.size W w7 ∧ W.heap.size < w7.heap.size) := ⟨HB6.out.1.trans (hb7.mono (Nat.le_of_lt HB6.out.2)), Nat.lt_of_lt_of_le HB6.out.2 hb7.size⟩
  clear d0 d1 d2 d3
  obtain ⟨e0, e1, e2, e3⟩ := box4 hx7
  have HX7 := Lib.hid hx7
  clear hb7 hx7
  go_wp2_with fail
  refine (nil_len _).mono ?_
  rintro e w' ⟨rfl, rfl⟩
  go_wp2_with fail
  refine (nil_sent _).mono ?_
  rintro e w' ⟨rfl, rfl⟩
  go_wp2_with fail
  refine (nil_came _).mono ?_
  rintro e w' ⟨rfl, rfl⟩
  go_wp2_with fail
  go_ret
  exact ⟨rfl, HB7.out.1⟩

/-! ### The row's step (as the guide's shell writes it, with 'Below' and a struct by value) -/
set_option maxRecDepth 100000 in
theorem lifted (os : Os) (started : os.Started) (H : Type) (enc : TypeId × Value → H) :
    ReturnsInHanded {} Try.checked os 12 .any (Rows.netNoneSpec.pre6 enc Try.prog Try.f12 Rows.netNoneRow.domain false) (Rows.netNoneSpec.post enc Try.prog Try.f12 false true false false) := by
  refine returnsInHanded_of_change (C := Try.checked) own started (by kernel_rfl) Try.func12
    (ChangeSpec.witness6 (enc := enc) (C := Try.checked) false ⟨#[], #[.agg #[.int .i64 0, .int .i64 0, .int .i64 0, .string ByteArray.empty]], []⟩ 8 (by kernel_rfl) (by kernel_rfl) (by kernel_rfl) (by kernel_rfl)) ?_
  intro W base args ds gs before hval0 hW hcnd _
  have hval : ∀ (j : Nat) t v, Try.f12.params[j]? = some t → args[j]? = some v → Value.okWide Try.prog W .any base t v := hval0
  have hW' := hW
  obtain ⟨p, q, hA0, hV, rfl, hfz, hnd⟩ := hW
  have hA : DataW.TrodAll enc Try.prog W 0 (fun _ => true) true Try.f12.params.toList args.toList ds p := hA0
  rw [Try.params12] at hA hval
  obtain ⟨v0, vs0, d0, ds0, p0, q0, hargs, rfl, rfl, h0, r0⟩ := trodAll_cons hA
  obtain ⟨rfl, rfl, rfl⟩ := trodAll_nil r0
  obtain rfl : args = #[v0] := by cases args; simp_all
  obtain ⟨rfl, rfl⟩ := trodVars_none hV
  have h00 := h0
  obtain ⟨c0, c1, c2, c3, y0, y1, y2, y3, m, rfl, rfl, rfl, hy0, hy1, hy2, hy3⟩ := open_agg4 Try.underlying47 (by kernel_rfl) (by kernel_rfl) (hval 0 47 v0 rfl rfl) h0
  obtain ⟨k, e0, rfl, wk⟩ := DataW.trod_int Try.underlying3 hy0
  obtain ⟨x, e1, rfl, wx⟩ := DataW.trod_int Try.underlying3 hy1
  obtain ⟨y, e2, rfl, wy⟩ := DataW.trod_int Try.underlying3 hy2
  obtain ⟨s, e3, rfl, ws⟩ := DataW.trod_string Try.underlying9 hy3
  obtain rfl : c0 = .int .i64 k := by simpa using e0
  obtain rfl : c1 = .int .i64 x := by simpa using e1
  obtain rfl : c2 = .int .i64 y := by simpa using e2
  obtain rfl : c3 = .string s := by simpa using e3
  clear hA0 hval0
  refine (walk k x y s W).mono fun e W' ⟨he, bel⟩ => ?_
  subst he
  exact ⟨_, rfl, _, _, _, [], _, [], hW', trodAll_mk1 (shut_bool Try.underlying4 _), trodAll_mk1 (Below.trod laidOut (by kernel_rfl) (by decide +kernel) h00 bel (fun z hz => by simp at hz)), rfl, bel.frame _, fun h => by cases h⟩

theorem over : Rows.netNoneRow.holds Try.pinned (OpenSpec.ofChange Rows.netNoneSpec) :=
  OpenClaim.holds_of_wide 12 Try.f12 rfl rfl rfl rfl rfl rfl rfl ⟨rfl, rfl, rfl, rfl, rfl⟩ rfl rfl rfl rfl rfl (by kernel_rfl) Try.func12 (by kernel_rfl)
    (of_decide_eq_true (by kernel_rfl)) (by unfold Func.isWrapper; first | (rw [if_pos (by decide +kernel)]; kernel_rfl) | (rw [if_neg (by decide +kernel)]; exact ⟨rfl, rfl⟩))
    (fun os started H enc _ => lifted os started H enc)

/-- The statement. -/
theorem proved : Rows.NetNoneSaid :=
  over
#print axioms proved
end Go.Proofs.Ytjeiakfdjbnkaaa.netNone

/-
  The walks of the law's does: Look.
-/
import Derived.Test.YtjeiakfdjbnkaaaDoesMore
import Derived.Deep.AppendLies
namespace Go.Proofs.Ytjeiakfdjbnkaaa
open Go.RowKit
set_option linter.unusedVariables false
attribute [local go_sem ↓] Go.wp_at_zero Go.wp_at_succ

@[go_sem high] theorem eq40z (p : Pk) (w : World) : (Op.equalIn 10000 40 (.agg #[.int .i64 p.src, .int .i64 p.dst, .string p.txt]) (.agg #[.int .i64 0, .int .i64 0, .string ⟨#[]⟩])).run Try.prog w = .ok (p.same Pk.zero) w :=
  eq40 p Pk.zero w

set_option maxRecDepth 100000 in
set_option maxHeartbeats 1000000 in
theorem does_look_no (fn fr : List Nat) (B R : Nat) (s : NS) (r : RS) (w : World) (x y : Int) (t : ByteArray) (h : Side w fn fr B R s r) (hl : Like s r) (hi : x < 0 ∨ (s.ps.length : Int) ≤ x) :
    Calls Try.prog 32 #[.pointer (some ⟨B, 0, none⟩), .pointer (some ⟨R, 0, none⟩), .agg #[.int .i64 7, .int .i64 x, .int .i64 y, .string t]] w fun e w' => e = .returned (.bool true) ∧ Both fn fr B R s r w w' := by
  have hd := DoAt.start ⟨7, x, y, t⟩ h
  have HL := Lib.hid hl
  have HD := Lib.hid hd
  have HT : Hid (decide (0 ≤ x ∧ x < (r.ps.length : Int)) = false) := by rw [hl.1]; exact decide_eq_false (by omega)
  obtain ⟨c0, c1, c2, c3⟩ := hd.cells
  clear h hl hd
  go_enter Try.func32, Try.ntmps32
  go_wp2_with fail
  refine (look_any fn B s _ x HD.out.side.1).mono ?_
  rintro e w2 ⟨hb2, p, b, rfl, ht⟩
  obtain ⟨rfl, hp⟩ : b = false ∧ p = Pk.zero := by
    rcases ht with ⟨h1, h2, _⟩ | ⟨_, j, h1, h2, _⟩
    · exact ⟨h1, h2⟩
    · omega
  have h2 := HD.out.below hb2
  have h2' := h2.below ((Below.refl _ w2).alloc (Nat.le_refl _) (.cells #[.int .i64 p.src, .int .i64 p.dst, .string p.txt] 40))
  have hp2 : (w2.alloc (.cells #[.int .i64 p.src, .int .i64 p.dst, .string p.txt] 40)).heap[w2.heap.size]? = some (.cells #[.int .i64 p.src, .int .i64 p.dst, .string p.txt] 40 (0, 0)) := heap_alloc_new w2 _
  obtain ⟨d0, d1, d2, d3⟩ := h2.cells
  obtain ⟨k0, k1, k2, k3⟩ := h2'.cells
  obtain ⟨a0, a1, a2, a3⟩ := box3 hp2
  have hsame : p.same Pk.zero = true := (Pk.same_iff p _).2 hp
  have H2 := Lib.hid h2'
  have HB := Lib.hid (h2'.both (s := s) (r := r) ⟨HL.out, by omega, by omega, by omega⟩)
  clear h2 h2' hb2 hp2 c0 c1 c2 c3 hp ht
  go_wp2_with fail
  refine (there_calls fr R r _ x H2.out.side.2.1).mono ?_
  rintro e w3 ⟨rfl, rfl⟩
  rw [HT.out]
  go_wp2_with fail
  go_ret
  exact ⟨rfl, HB.out⟩

set_option maxRecDepth 100000 in
set_option maxHeartbeats 1000000 in
theorem does_look_yes (fn fr : List Nat) (B R : Nat) (s : NS) (r : RS) (w : World) (i : Nat) (y : Int) (t : ByteArray) (h : Side w fn fr B R s r) (hl : Like s r) (hi : i < s.ps.length) :
    Calls Try.prog 32 #[.pointer (some ⟨B, 0, none⟩), .pointer (some ⟨R, 0, none⟩), .agg #[.int .i64 7, .int .i64 i, .int .i64 y, .string t]] w fun e w' => e = .returned (.bool true) ∧ Both fn fr B R s r w w' := by
  have hd := DoAt.start ⟨7, i, y, t⟩ h
  have HL := Lib.hid hl
  have HD := Lib.hid hd
  have HT : Hid (decide (0 ≤ (i : Int) ∧ (i : Int) < (r.ps.length : Int)) = true) := by rw [hl.1]; exact decide_eq_true (by omega)
  have hir : i < r.ps.length := by rw [hl.1]; exact hi
  obtain ⟨c0, c1, c2, c3⟩ := hd.cells
  clear h hl hd
  go_enter Try.func32, Try.ntmps32
  go_wp2_with fail
  refine (look_any fn B s _ i HD.out.side.1).mono ?_
  rintro e w2 ⟨hb2, p, b, rfl, ht⟩
  obtain ⟨rfl, hp⟩ : b = true ∧ p = r.ps.getD i Pk.zero := by
    rcases ht with ⟨h1, h2, _⟩ | ⟨h0, j, h1, h2, h3⟩
    · omega
    · obtain rfl : i = j := by omega
      exact ⟨h0, by rw [HL.out.1]; exact h3⟩
  have h2 := HD.out.below hb2
  have h2' := h2.below ((Below.refl _ w2).alloc (Nat.le_refl _) (.cells #[.int .i64 p.src, .int .i64 p.dst, .string p.txt] 40))
  have hp2 : (w2.alloc (.cells #[.int .i64 p.src, .int .i64 p.dst, .string p.txt] 40)).heap[w2.heap.size]? = some (.cells #[.int .i64 p.src, .int .i64 p.dst, .string p.txt] 40 (0, 0)) := heap_alloc_new w2 _
  obtain ⟨d0, d1, d2, d3⟩ := h2.cells
  obtain ⟨k0, k1, k2, k3⟩ := h2'.cells
  obtain ⟨a0, a1, a2, a3⟩ := box3 hp2
  have hsame : p.same p = true := (Pk.same_iff p p).2 rfl
  have H2 := Lib.hid h2'
  have HB := Lib.hid (fun n : Nat => ((h2'.below (w' := (w2.alloc (.cells #[.int .i64 p.src, .int .i64 p.dst, .string p.txt] 40)).drewN n) ⟨rfl, rfl, rfl, Nat.le_refl _, fun _ _ => rfl⟩).both (s := s) (r := r) ⟨HL.out, by omega, by omega, by omega⟩))
  obtain ⟨la, lc, wa, wc, _, _, hR, hrow, _⟩ := h2'.side.2.1
  obtain ⟨g, lc', hv, _, hg⟩ := hrow.form (by omega)
  simp only [Value.slice.injEq, true_and] at hv
  obtain ⟨rfl, rfl⟩ := hv
  obtain ⟨e0, e1, e2, e3, ef⟩ := refCell hR
  obtain ⟨q0, q1, q2⟩ := pk_cells rfl hrow i hir
  rw [← hp] at q0 q1 q2
  clear h2 h2' hb2 hp2 c0 c1 c2 c3 hp ht hR hrow hg
  go_wp2_with fail
  refine (there_calls fr R r _ i H2.out.side.2.1).mono ?_
  rintro e w3 ⟨rfl, rfl⟩
  rw [HT.out]
  go_wp2_with fail
  go_quiet (fail)
  go_wp2_with fail
  go_ret
  exact ⟨rfl, HB.out _⟩

end Go.Proofs.Ytjeiakfdjbnkaaa

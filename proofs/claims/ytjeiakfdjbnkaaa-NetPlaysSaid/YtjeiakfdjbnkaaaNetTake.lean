/-
  The walks of the network's Take.
-/
import Derived.Test.YtjeiakfdjbnkaaaNetIsCut
import Derived.Deep.RegionLaw
import Derived.Lib.SlBytesConst
import Derived.WalkKit
import Derived.WalkSpells
import Derived.WalkLawsBesides
import Derived.Below
import Derived.Lib.Hide
import Derived.Deep.AppendLies
import Derived.Outline
import Derived.Deep.RegionWith
namespace Go.Proofs.Ytjeiakfdjbnkaaa
open Go.RowKit
set_option linter.unusedVariables false

/-- A box of three cells, cell by cell. -/
theorem box3 {w : World} {b : Nat} {x y z : Value} (h : w.heap[b]? = some (.cells #[x, y, z] 40 (0, 0))) :
    w.cell? ⟨b, 0, none⟩ = some x ∧ w.cell? ⟨b, 1, none⟩ = some y ∧ w.cell? ⟨b, 2, none⟩ = some z ∧ ∀ o, w.frozen? ⟨b, o, none⟩ = false := by
  refine ⟨?_, ?_, ?_, fun o => frozen_of_row w b o _ 40 h⟩ <;> rw [cell_of_row w b _ _ 40 (0, 0) h] <;> rfl

set_option maxRecDepth 100000 in
set_option maxHeartbeats 400000 in
theorem take_no (fp : List Nat) (B : Nat) (s : NS) (w : World) (i : Int) (hn : NetAt w fp B s) (hi : i < 0 ∨ (s.ps.length : Int) ≤ i) :
    Calls Try.prog 27 #[.pointer (some ⟨B, 0, none⟩), .int .i64 i] w fun e w' => e = .returned (.tuple #[Pk.zero.val, .bool false]) ∧ Below w.heap.size w w' := by
  have hb0 : Below w.heap.size w (w.alloc (.cells #[.int .i64 0, .int .i64 0, .string ByteArray.empty] 40)) := (Below.refl _ w).alloc (Nat.le_refl _) _
  have HN := Lib.hid (NetAt.below hn hb0)
  have HB0 := Lib.hid hb0
  clear hn hb0
  have HI := Lib.hid hi
  clear hi
  go_enter Try.func27, Try.ntmps27
  go_wp2_with fail
  refine (look_no _ _ _ _ _ HN.out HI.out).mono ?_
  rintro e w1 ⟨rfl, hb1⟩
  have hsz : w.heap.size < w1.heap.size := by have := hb1.size; simp at this; omega
  have d : w1.heap[w.heap.size]? = some (.cells #[.int .i64 0, .int .i64 0, .string ByteArray.empty] 40 (0, 0)) := (hb1.block _ (by simp)).trans (heap_alloc_new w _)
  have HB1 := Lib.hid hb1
  have hN1 := NetAt.below HN.out (hb1.alloc hb1.size (.cells #[.int .i64 0, .int .i64 0, .string ByteArray.empty] 40))
  have HN1 := Lib.hid hN1
  clear hb1 hN1
  unfold Pk.val Pk.zero
  go_wp2_with fail
  refine (lose_no _ _ _ _ _ HN1.out HI.out).mono ?_
  rintro e w2 ⟨rfl, hb2⟩
  have d2 : w2.heap[w.heap.size]? = some (.cells #[.int .i64 0, .int .i64 0, .string ByteArray.empty] 40 (0, 0)) := (hb2.block _ (by simp; omega)).trans ((Below.heap_alloc _ _ _ hsz).trans d)
  obtain ⟨e0, e1, e2, ef⟩ := box3 d2
  have HE : Hid (Below w.heap.size w w2) := ((HB0.out.trans (HB1.out.mono (by simp))).alloc (by omega) _).trans (hb2.mono (by simp; omega))
  clear hb2 d d2
  go_wp2_with fail
  exact bodyPost_ret (v := .tuple #[Pk.zero.val, .bool false]) (by simp [results, Try.results27, go_sem, e0, e1, e2]; rfl) rfl ⟨rfl, ((HE.out.setCell (p := ⟨w.heap.size, 0, none⟩) (Nat.le_refl _) _).setCell (p := ⟨w.heap.size, 1, none⟩) (Nat.le_refl _) _).setCell (p := ⟨w.heap.size, 2, none⟩) (Nat.le_refl _) _⟩

theorem Fr.setCell {w w' : World} {fp fq : List Nat} (h : Fr w w' fp fq) {b : Nat} (hb : w.heap.size ≤ b) (o : Nat) (u : Value) : Fr w (w'.setCell ⟨b, o, none⟩ u) fp fq :=
  ⟨h.os, h.tape, h.output, by have := h.size; simp; omega, fun k hk hn => by rw [Below.heap_setCell _ _ _ _ (show k ≠ b by omega)]; exact h.block k hk hn, h.src⟩

theorem NetAt.setCell {w : World} {fp : List Nat} {B : Nat} {s : NS} (h : NetAt w fp B s) {b : Nat} (hb : b ∉ fp) (o : Nat) (u : Value) : NetAt (w.setCell ⟨b, o, none⟩ u) fp B s :=
  h.kept (fq := [b]) (fr := [b]) ⟨rfl, rfl, rfl, by simp, fun k _ hn => Below.heap_setCell _ _ _ _ (fun e => hn (by simp [e])), fun k hk => .inl hk⟩ (fun k hk => by simp; intro e; subst e; exact hb hk)

set_option maxRecDepth 100000 in
set_option maxHeartbeats 400000 in
theorem take_cut (fp : List Nat) (B : Nat) (s : NS) (w : World) (i : Nat) (hn : NetAt w fp B s) (hi : i < s.ps.length) (hc : hasWay s.cut (btw (s.ps.getD i Pk.zero).src (s.ps.getD i Pk.zero).dst) = true) :
    Calls Try.prog 27 #[.pointer (some ⟨B, 0, none⟩), .int .i64 i] w (Did (.tuple #[Pk.zero.val, .bool false]) w fp B ⟨s.ps.eraseIdx i, s.cut, s.sent, s.came⟩) := by
  have HV := Lib.hid hn.valid
  have hb0 : Below w.heap.size w (w.alloc (.cells #[.int .i64 0, .int .i64 0, .string ByteArray.empty] 40)) := (Below.refl _ w).alloc (Nat.le_refl _) _
  have HN := Lib.hid (NetAt.below hn hb0)
  have HB0 := Lib.hid hb0
  clear hn hb0
  have HC := Lib.hid hc
  clear hc
  go_enter Try.func27, Try.ntmps27
  go_wp2_with fail
  refine (look_yes _ _ _ _ _ HN.out hi).mono ?_
  rintro e w1 ⟨rfl, hb1⟩
  have hsz : w.heap.size < w1.heap.size := by have := hb1.size; simp at this; omega
  have d : w1.heap[w.heap.size]? = some (.cells #[.int .i64 0, .int .i64 0, .string ByteArray.empty] 40 (0, 0)) := (hb1.block _ (by simp)).trans (heap_alloc_new w _)
  have HB1 := Lib.hid hb1
  generalize hp : s.ps.getD i Pk.zero = p at HC
  clear hp
  have hN1 := NetAt.below HN.out (hb1.alloc hb1.size (.cells #[.int .i64 p.src, .int .i64 p.dst, .string p.txt] 40))
  have HN1 := Lib.hid hN1
  clear hb1 hN1
  have HE1 : Hid (Below w.heap.size w (w1.alloc (.cells #[.int .i64 p.src, .int .i64 p.dst, .string p.txt] 40))) := (HB0.out.trans (HB1.out.mono (by simp))).alloc (by omega) _
  have D := Lib.hid d
  clear d
  unfold Pk.val
  go_wp2_with fail
  refine (lose_yes _ _ _ _ _ HN1.out hi).mono ?_
  rintro e w3 ⟨fq, rfl, hn3, hf3⟩
  have d3 : w3.heap[w.heap.size]? = some (.cells #[.int .i64 0, .int .i64 0, .string ByteArray.empty] 40 (0, 0)) :=
    (hf3.block _ (by simp; omega) (fun hm => by have := HV.out _ hm; omega)).trans ((Below.heap_alloc _ _ _ hsz).trans D.out)
  have p3 : w3.heap[w1.heap.size]? = some (.cells #[.int .i64 p.src, .int .i64 p.dst, .string p.txt] 40 (0, 0)) :=
    (hf3.block _ (by simp) (fun hm => by have := HV.out _ hm; omega)).trans (heap_alloc_new w1 _)
  obtain ⟨q0, q1, q2, qf⟩ := box3 p3
  have hnot : w.heap.size ∉ fq := fun hm => by
    rcases hf3.src _ hm with h | h
    · have := HV.out _ h; omega
    · simp at h; omega
  have HN3 := Lib.hid hn3
  have HF3 := Lib.hid ((Fr.of_below HE1.out fp).trans hf3)
  have HNOT := Lib.hid hnot
  have HD3 := Lib.hid d3
  have hlt3 := (Array.getElem?_eq_some_iff.1 d3).1
  clear hn3 hf3 hnot d3 p3
  go_wp2_with fail
  refine (iscut_calls _ _ _ _ _ _ HN3.out).mono ?_
  rintro e w4 ⟨rfl, hb4⟩
  rw [HC.out]
  obtain ⟨e0, e1, e2, ef⟩ := box3 ((hb4.block _ hlt3).trans HD3.out)
  have HN4 := Lib.hid (NetAt.below HN3.out hb4)
  have HF4 := Lib.hid (HF3.out.trans (Fr.of_below hb4 fq))
  clear hb4 q0 q1 q2 qf
  go_wp2_with fail
  refine bodyPost_ret (v := .tuple #[Pk.zero.val, .bool false]) (by simp [results, Try.results27, go_sem, e0, e1, e2]; rfl) rfl ⟨fq, rfl, ?_, ?_⟩
  · exact ((HN4.out.setCell HNOT.out 0 _).setCell HNOT.out 1 _).setCell HNOT.out 2 _
  · exact ((HF4.out.setCell (Nat.le_refl _) 0 _).setCell (Nat.le_refl _) 1 _).setCell (Nat.le_refl _) 2 _

set_option maxRecDepth 100000 in
set_option maxHeartbeats 400000 in
theorem take_yes (fp : List Nat) (B : Nat) (s : NS) (w : World) (i : Nat) (hn : NetAt w fp B s) (hi : i < s.ps.length) (hcm : s.came < 5000) (hc : hasWay s.cut (btw (s.ps.getD i Pk.zero).src (s.ps.getD i Pk.zero).dst) = false) :
    Calls Try.prog 27 #[.pointer (some ⟨B, 0, none⟩), .int .i64 i] w (Did (.tuple #[(s.ps.getD i Pk.zero).val, .bool true]) w fp B ⟨s.ps.eraseIdx i, s.cut, s.sent, s.came + 1⟩) := by
  have HV := Lib.hid hn.valid
  have hb0 : Below w.heap.size w (w.alloc (.cells #[.int .i64 0, .int .i64 0, .string ByteArray.empty] 40)) := (Below.refl _ w).alloc (Nat.le_refl _) _
  have HN := Lib.hid (NetAt.below hn hb0)
  have HB0 := Lib.hid hb0
  clear hn hb0
  have HC := Lib.hid hc
  clear hc
  go_enter Try.func27, Try.ntmps27
  go_wp2_with fail
  refine (look_yes _ _ _ _ _ HN.out hi).mono ?_
  rintro e w1 ⟨rfl, hb1⟩
  have hsz : w.heap.size < w1.heap.size := by have := hb1.size; simp at this; omega
  have d : w1.heap[w.heap.size]? = some (.cells #[.int .i64 0, .int .i64 0, .string ByteArray.empty] 40 (0, 0)) := (hb1.block _ (by simp)).trans (heap_alloc_new w _)
  have HB1 := Lib.hid hb1
  generalize hp : s.ps.getD i Pk.zero = p at HC
  have HP := Lib.hid hp
  clear hp
  have hN1 := NetAt.below HN.out (hb1.alloc hb1.size (.cells #[.int .i64 p.src, .int .i64 p.dst, .string p.txt] 40))
  have HN1 := Lib.hid hN1
  clear hb1 hN1
  have HE1 : Hid (Below w.heap.size w (w1.alloc (.cells #[.int .i64 p.src, .int .i64 p.dst, .string p.txt] 40))) := (HB0.out.trans (HB1.out.mono (by simp))).alloc (by omega) _
  have D := Lib.hid d
  clear d
  unfold Pk.val
  go_wp2_with fail
  refine (lose_yes _ _ _ _ _ HN1.out hi).mono ?_
  rintro e w3 ⟨fq, rfl, hn3, hf3⟩
  have d3 : w3.heap[w.heap.size]? = some (.cells #[.int .i64 0, .int .i64 0, .string ByteArray.empty] 40 (0, 0)) :=
    (hf3.block _ (by simp; omega) (fun hm => by have := HV.out _ hm; omega)).trans ((Below.heap_alloc _ _ _ hsz).trans D.out)
  have p3 : w3.heap[w1.heap.size]? = some (.cells #[.int .i64 p.src, .int .i64 p.dst, .string p.txt] 40 (0, 0)) :=
    (hf3.block _ (by simp) (fun hm => by have := HV.out _ hm; omega)).trans (heap_alloc_new w1 _)
  obtain ⟨q0, q1, q2, qf⟩ := box3 p3
  have hnot : w.heap.size ∉ fq := fun hm => by
    rcases hf3.src _ hm with h | h
    · have := HV.out _ h; omega
    · simp at h; omega
  have hnot1 : w1.heap.size ∉ fq := fun hm => by
    rcases hf3.src _ hm with h | h
    · have := HV.out _ h; omega
    · simp at h; omega
  have HN3 := Lib.hid hn3
  have HF3 := Lib.hid ((Fr.of_below HE1.out fp).trans hf3)
  have HNOT := Lib.hid hnot
  have HNOT1 := Lib.hid hnot1
  have HD3 := Lib.hid d3
  have HP3 := Lib.hid p3
  have hlt3 := (Array.getElem?_eq_some_iff.1 d3).1
  have hltp := (Array.getElem?_eq_some_iff.1 p3).1
  clear hn3 hf3 hnot hnot1 d3 p3
  go_wp2_with fail
  refine (iscut_calls _ _ _ _ _ _ HN3.out).mono ?_
  rintro e w4 ⟨rfl, hb4⟩
  rw [HC.out]
  clear q0 q1 q2 qf
  have HN4 := Lib.hid (NetAt.below HN3.out hb4)
  have HF4 := Lib.hid (HF3.out.trans (Fr.of_below hb4 fq))
  have N5 := net_came HN4.out (s.came + 1) (by omega)
  have HN5 := Lib.hid N5.1
  have HF5 := Lib.hid (HF4.out.trans N5.2)
  have hBm : B ∈ fq := by obtain ⟨_, _, _, h, _⟩ := HN4.out; rw [h]; simp
  have hBb : w.heap.size ≠ B := fun e => HNOT.out (by rw [e]; exact hBm)
  have hBp : w1.heap.size ≠ B := fun e => HNOT1.out (by rw [e]; exact hBm)
  obtain ⟨e0, e1, e2, ef⟩ := box3 (((Below.heap_setCell w4 ⟨B, 3, none⟩ (.int .i64 ((s.came + 1 : Nat) : Int)) _ hBb).trans (hb4.block _ hlt3)).trans HD3.out)
  obtain ⟨q0, q1, q2, qf⟩ := box3 (((Below.heap_setCell w4 ⟨B, 3, none⟩ (.int .i64 ((s.came + 1 : Nat) : Int)) _ hBp).trans (hb4.block _ hltp)).trans HP3.out)
  obtain ⟨_, _, _, _, _, hB4, _⟩ := HN4.out
  obtain ⟨c0, c1, c2, c3, cf⟩ := netCell hB4
  clear hB4 hb4 N5 c0 c1 c2
  rw [show ((s.came + 1 : Nat) : Int) = (s.came : Int) + 1 by omega] at e0 e1 e2 ef q0 q1 q2 qf HN5 HF5
  go_wp2_with fail
  rw [HP.out]
  refine bodyPost_ret (v := .tuple #[p.val, .bool true]) (by simp [results, Try.results27, go_sem, e0, e1, e2]; rfl) rfl ⟨fq, rfl, ?_, ?_⟩
  · exact ((HN5.out.setCell HNOT.out 0 _).setCell HNOT.out 1 _).setCell HNOT.out 2 _
  · exact ((HF5.out.setCell (Nat.le_refl _) 0 _).setCell (Nat.le_refl _) 1 _).setCell (Nat.le_refl _) 2 _

end Go.Proofs.Ytjeiakfdjbnkaaa

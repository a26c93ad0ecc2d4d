/-
  The walk of the reference's Take.
-/
import Derived.Test.YtjeiakfdjbnkaaaRefLose
import Derived.WalkKit
import Derived.WalkSpells
import Derived.WalkLawsBesides
import Derived.Below
import Derived.Lib.Hide
import Derived.Outline
import Derived.Deep.RegionWith
namespace Go.Proofs.Ytjeiakfdjbnkaaa
open Go.RowKit
set_option linter.unusedVariables false

theorem RefAt.setCell {w : World} {fp : List Nat} {R : Nat} {s : RS} (h : RefAt w fp R s) {b : Nat} (hb : b ∉ fp) (o : Nat) (u : Value) : RefAt (w.setCell ⟨b, o, none⟩ u) fp R s :=
  h.kept (fq := [b]) (fr := [b]) ⟨rfl, rfl, rfl, by simp, fun k _ hn => Below.heap_setCell _ _ _ _ (fun e => hn (by simp [e])), fun k hk => .inl hk⟩ (fun k hk => by simp; intro e; subst e; exact hb hk)

set_option maxRecDepth 100000 in
set_option maxHeartbeats 400000 in
theorem reftake_no (fp : List Nat) (R : Nat) (s : RS) (w : World) (i : Int) (hn : RefAt w fp R s) (hi : i < 0 ∨ (s.ps.length : Int) ≤ i) :
    Calls Try.prog 40 #[.pointer (some ⟨R, 0, none⟩), .int .i64 i] w fun e w' => e = .returned (.tuple #[Pk.zero.val, .bool false]) ∧ Below w.heap.size w w' := by
  have hb0 : Below w.heap.size w (w.alloc (.cells #[.int .i64 0, .int .i64 0, .string ByteArray.empty] 40)) := (Below.refl _ w).alloc (Nat.le_refl _) _
  have HN := Lib.hid (RefAt.below hn hb0)
  have hd : decide (0 ≤ i ∧ i < s.ps.length) = false := by simp; omega
  have HD := Lib.hid hd
  have HB0 := Lib.hid hb0
  have d : (w.alloc (.cells #[.int .i64 0, .int .i64 0, .string ByteArray.empty] 40)).heap[w.heap.size]? = some (.cells #[.int .i64 0, .int .i64 0, .string ByteArray.empty] 40 (0, 0)) := heap_alloc_new w _
  clear hn hi hd hb0 d
  go_enter Try.func40, Try.ntmps40
  go_wp2_with fail
  refine (there_calls _ _ _ _ _ HN.out).mono ?_
  rintro e w' ⟨rfl, rfl⟩
  rw [HD.out]
  go_wp2_with fail
  exact bodyPost_ret (v := .tuple #[Pk.zero.val, .bool false]) (by simp [results, Try.results40, go_sem]; rfl) rfl ⟨rfl, HB0.out⟩

set_option maxRecDepth 100000 in
set_option maxHeartbeats 400000 in
theorem reftake_cut (fp : List Nat) (R : Nat) (s : RS) (w : World) (i : Nat) (hn : RefAt w fp R s) (hi : i < s.ps.length) (hc : refCut s.ws (s.ps.getD i Pk.zero).src (s.ps.getD i Pk.zero).dst = true) :
    Calls Try.prog 40 #[.pointer (some ⟨R, 0, none⟩), .int .i64 i] w (RDid (.tuple #[Pk.zero.val, .bool false]) w fp R ⟨s.ps.eraseIdx i, s.ws, s.sent, s.came⟩) := by
  have HV := Lib.hid hn.valid
  have hb0 : Below w.heap.size w (w.alloc (.cells #[.int .i64 0, .int .i64 0, .string ByteArray.empty] 40)) := (Below.refl _ w).alloc (Nat.le_refl _) _
  have hn1 := RefAt.below hn hb0
  have HN := Lib.hid hn1
  have HC := Lib.hid hc
  have hd : decide (0 ≤ (i : Int) ∧ (i : Int) < s.ps.length) = true := by simp; omega
  have HD := Lib.hid hd
  obtain ⟨la, lc, wa, wc, rfl, hnd, hR, hl, hw, hlen, hws, hs, hcm0⟩ := hn1
  obtain ⟨g, lc', hv, _, hg⟩ := hl.form (by omega)
  simp only [Value.slice.injEq, true_and] at hv
  obtain ⟨rfl, rfl⟩ := hv
  obtain ⟨c0, c1, c2, c3, cf⟩ := refCell hR
  obtain ⟨q0, q1, q2⟩ := pk_cells rfl hl i hi
  generalize hp : s.ps.getD i Pk.zero = p at HC q0 q1 q2
  have HP := Lib.hid hp
  have hb1 : Below (w.alloc (.cells #[.int .i64 0, .int .i64 0, .string ByteArray.empty] 40)).heap.size (w.alloc (.cells #[.int .i64 0, .int .i64 0, .string ByteArray.empty] 40)) ((w.alloc (.cells #[.int .i64 0, .int .i64 0, .string ByteArray.empty] 40)).alloc (.cells #[.int .i64 p.src, .int .i64 p.dst, .string p.txt] 40)) := (Below.refl _ _).alloc (Nat.le_refl _) _
  have HN2 := Lib.hid (RefAt.below HN.out hb1)
  have HB2 : Hid (Below w.heap.size w ((w.alloc (.cells #[.int .i64 0, .int .i64 0, .string ByteArray.empty] 40)).alloc (.cells #[.int .i64 p.src, .int .i64 p.dst, .string p.txt] 40))) := hb0.alloc (by simp) _
  have D : Hid (((w.alloc (.cells #[.int .i64 0, .int .i64 0, .string ByteArray.empty] 40)).alloc (.cells #[.int .i64 p.src, .int .i64 p.dst, .string p.txt] 40)).heap[w.heap.size]? = some (.cells #[.int .i64 0, .int .i64 0, .string ByteArray.empty] 40 (0, 0))) := (Below.heap_alloc _ _ _ (by simp)).trans (heap_alloc_new w _)
  have DP : Hid (((w.alloc (.cells #[.int .i64 0, .int .i64 0, .string ByteArray.empty] 40)).alloc (.cells #[.int .i64 p.src, .int .i64 p.dst, .string p.txt] 40)).heap[w.heap.size + 1]? = some (.cells #[.int .i64 p.src, .int .i64 p.dst, .string p.txt] 40 (0, 0))) := by
    have h := heap_alloc_new (w.alloc (.cells #[.int .i64 0, .int .i64 0, .string ByteArray.empty] 40)) (.cells #[.int .i64 p.src, .int .i64 p.dst, .string p.txt] 40)
    have e : (w.alloc (.cells #[.int .i64 0, .int .i64 0, .string ByteArray.empty] 40)).heap.size = w.heap.size + 1 := by simp
    unfold Hid
    rw [← e]; exact h
  clear hR hl hw hnd hg hn hb0 hb1 hc hd hp
  go_enter Try.func40, Try.ntmps40
  go_wp2_with fail
  refine (there_calls _ _ _ _ _ HN.out).mono ?_
  rintro e w' ⟨rfl, rfl⟩
  rw [HD.out]
  go_wp2_with fail
  clear c0 c1 c2 c3 cf q0 q1 q2
  refine (reflose_yes _ _ _ _ _ HN2.out hi).mono ?_
  rintro e w3 ⟨fq, rfl, hn3, hf3⟩
  have d3 : w3.heap[w.heap.size]? = some (.cells #[.int .i64 0, .int .i64 0, .string ByteArray.empty] 40 (0, 0)) :=
    (hf3.block _ (by simp; omega) (fun hm => by have := HV.out _ hm; omega)).trans D.out
  have p3 : w3.heap[w.heap.size + 1]? = some (.cells #[.int .i64 p.src, .int .i64 p.dst, .string p.txt] 40 (0, 0)) :=
    (hf3.block _ (by simp) (fun hm => by have := HV.out _ hm; omega)).trans DP.out
  obtain ⟨r0, r1, r2, rf⟩ := box3 p3
  have hnot : w.heap.size ∉ fq := fun hm => by
    rcases hf3.src _ hm with h | h
    · have := HV.out _ h; omega
    · simp at h; omega
  have hnot1 : w.heap.size + 1 ∉ fq := fun hm => by
    rcases hf3.src _ hm with h | h
    · have := HV.out _ h; omega
    · simp at h; omega
  have HN3 := Lib.hid hn3
  have HF3 := Lib.hid ((Fr.of_below HB2.out _).trans hf3)
  have HNOT := Lib.hid hnot
  have HNOT1 := Lib.hid hnot1
  have HD3 := Lib.hid d3
  have HP3 := Lib.hid p3
  have hlt3 := (Array.getElem?_eq_some_iff.1 d3).1
  have hltp := (Array.getElem?_eq_some_iff.1 p3).1
  clear hn3 hf3 hnot hnot1 d3 p3
  go_wp2_with fail
  refine (refcut_calls _ _ _ _ _ _ HN3.out).mono ?_
  rintro e w4 ⟨rfl, hb4⟩
  rw [HC.out]
  obtain ⟨e0, e1, e2, ef⟩ := box3 ((hb4.block _ hlt3).trans HD3.out)
  have HN4 := Lib.hid (RefAt.below HN3.out hb4)
  have HF4 := Lib.hid (HF3.out.trans (Fr.of_below hb4 fq))
  clear hb4 r0 r1 r2 rf
  go_wp2_with fail
  refine bodyPost_ret (v := .tuple #[Pk.zero.val, .bool false]) (by simp [results, Try.results40, go_sem, e0, e1, e2]; rfl) rfl ⟨fq, rfl, ?_, ?_⟩
  · exact ((HN4.out.setCell HNOT.out 0 _).setCell HNOT.out 1 _).setCell HNOT.out 2 _
  · exact ((HF4.out.setCell (Nat.le_refl _) 0 _).setCell (Nat.le_refl _) 1 _).setCell (Nat.le_refl _) 2 _

set_option maxRecDepth 100000 in
set_option maxHeartbeats 400000 in
theorem reftake_yes (fp : List Nat) (R : Nat) (s : RS) (w : World) (i : Nat) (hn : RefAt w fp R s) (hi : i < s.ps.length) (hcm : s.came < 5000) (hc : refCut s.ws (s.ps.getD i Pk.zero).src (s.ps.getD i Pk.zero).dst = false) :
    Calls Try.prog 40 #[.pointer (some ⟨R, 0, none⟩), .int .i64 i] w (RDid (.tuple #[(s.ps.getD i Pk.zero).val, .bool true]) w fp R ⟨s.ps.eraseIdx i, s.ws, s.sent, s.came + 1⟩) := by
  have HV := Lib.hid hn.valid
  have hb0 : Below w.heap.size w (w.alloc (.cells #[.int .i64 0, .int .i64 0, .string ByteArray.empty] 40)) := (Below.refl _ w).alloc (Nat.le_refl _) _
  have hn1 := RefAt.below hn hb0
  have HN := Lib.hid hn1
  have HC := Lib.hid hc
  have hd : decide (0 ≤ (i : Int) ∧ (i : Int) < s.ps.length) = true := by simp; omega
  have HD := Lib.hid hd
  obtain ⟨la, lc, wa, wc, rfl, hnd, hR, hl, hw, hlen, hws, hs, hcm0⟩ := hn1
  obtain ⟨g, lc', hv, _, hg⟩ := hl.form (by omega)
  simp only [Value.slice.injEq, true_and] at hv
  obtain ⟨rfl, rfl⟩ := hv
  obtain ⟨c0, c1, c2, c3, cf⟩ := refCell hR
  obtain ⟨q0, q1, q2⟩ := pk_cells rfl hl i hi
  generalize hp : s.ps.getD i Pk.zero = p at HC q0 q1 q2
  have HP := Lib.hid hp
  have hb1 : Below (w.alloc (.cells #[.int .i64 0, .int .i64 0, .string ByteArray.empty] 40)).heap.size (w.alloc (.cells #[.int .i64 0, .int .i64 0, .string ByteArray.empty] 40)) ((w.alloc (.cells #[.int .i64 0, .int .i64 0, .string ByteArray.empty] 40)).alloc (.cells #[.int .i64 p.src, .int .i64 p.dst, .string p.txt] 40)) := (Below.refl _ _).alloc (Nat.le_refl _) _
  have HN2 := Lib.hid (RefAt.below HN.out hb1)
  have HB2 : Hid (Below w.heap.size w ((w.alloc (.cells #[.int .i64 0, .int .i64 0, .string ByteArray.empty] 40)).alloc (.cells #[.int .i64 p.src, .int .i64 p.dst, .string p.txt] 40))) := hb0.alloc (by simp) _
  have D : Hid (((w.alloc (.cells #[.int .i64 0, .int .i64 0, .string ByteArray.empty] 40)).alloc (.cells #[.int .i64 p.src, .int .i64 p.dst, .string p.txt] 40)).heap[w.heap.size]? = some (.cells #[.int .i64 0, .int .i64 0, .string ByteArray.empty] 40 (0, 0))) := (Below.heap_alloc _ _ _ (by simp)).trans (heap_alloc_new w _)
  have DP : Hid (((w.alloc (.cells #[.int .i64 0, .int .i64 0, .string ByteArray.empty] 40)).alloc (.cells #[.int .i64 p.src, .int .i64 p.dst, .string p.txt] 40)).heap[w.heap.size + 1]? = some (.cells #[.int .i64 p.src, .int .i64 p.dst, .string p.txt] 40 (0, 0))) := by
    have h := heap_alloc_new (w.alloc (.cells #[.int .i64 0, .int .i64 0, .string ByteArray.empty] 40)) (.cells #[.int .i64 p.src, .int .i64 p.dst, .string p.txt] 40)
    have e : (w.alloc (.cells #[.int .i64 0, .int .i64 0, .string ByteArray.empty] 40)).heap.size = w.heap.size + 1 := by simp
    unfold Hid
    rw [← e]; exact h
  clear hR hl hw hnd hg hn hb0 hb1 hc hd hp
  go_enter Try.func40, Try.ntmps40
  go_wp2_with fail
  refine (there_calls _ _ _ _ _ HN.out).mono ?_
  rintro e w' ⟨rfl, rfl⟩
  rw [HD.out]
  go_wp2_with fail
  clear c0 c1 c2 c3 cf q0 q1 q2
  refine (reflose_yes _ _ _ _ _ HN2.out hi).mono ?_
  rintro e w3 ⟨fq, rfl, hn3, hf3⟩
  have d3 : w3.heap[w.heap.size]? = some (.cells #[.int .i64 0, .int .i64 0, .string ByteArray.empty] 40 (0, 0)) :=
    (hf3.block _ (by simp; omega) (fun hm => by have := HV.out _ hm; omega)).trans D.out
  have p3 : w3.heap[w.heap.size + 1]? = some (.cells #[.int .i64 p.src, .int .i64 p.dst, .string p.txt] 40 (0, 0)) :=
    (hf3.block _ (by simp) (fun hm => by have := HV.out _ hm; omega)).trans DP.out
  obtain ⟨r0, r1, r2, rf⟩ := box3 p3
  have hnot : w.heap.size ∉ fq := fun hm => by
    rcases hf3.src _ hm with h | h
    · have := HV.out _ h; omega
    · simp at h; omega
  have hnot1 : w.heap.size + 1 ∉ fq := fun hm => by
    rcases hf3.src _ hm with h | h
    · have := HV.out _ h; omega
    · simp at h; omega
  have HN3 := Lib.hid hn3
  have HF3 := Lib.hid ((Fr.of_below HB2.out _).trans hf3)
  have HNOT := Lib.hid hnot
  have HNOT1 := Lib.hid hnot1
  have HD3 := Lib.hid d3
  have HP3 := Lib.hid p3
  have hlt3 := (Array.getElem?_eq_some_iff.1 d3).1
  have hltp := (Array.getElem?_eq_some_iff.1 p3).1
  clear hn3 hf3 hnot hnot1 d3 p3
  go_wp2_with fail
  refine (refcut_calls _ _ _ _ _ _ HN3.out).mono ?_
  rintro e w4 ⟨rfl, hb4⟩
  rw [HC.out]
  have hn4 := RefAt.below HN3.out hb4
  have hz := ref_came hn4 (s.came + 1) (by omega)
  have hz4 : w4.heap[w.heap.size]? = some (.cells #[.int .i64 0, .int .i64 0, .string ByteArray.empty] 40 (0, 0)) := (hb4.block _ hlt3).trans HD3.out
  have hp4 : w4.heap[w.heap.size + 1]? = some (.cells #[.int .i64 p.src, .int .i64 p.dst, .string p.txt] 40 (0, 0)) := (hb4.block _ hltp).trans HP3.out
  have hne : R ∈ fq := by obtain ⟨_, _, _, _, h, _⟩ := hn4; rw [h]; simp
  have hoth : ∀ k, k ∉ fq → (w4.setCell ⟨R, 3, none⟩ (.int .i64 ((s.came + 1 : Nat) : Int))).heap[k]? = w4.heap[k]? := fun k hk => Below.heap_setCell _ _ _ _ (fun e => hk (by rw [e]; exact hne))
  obtain ⟨e0, e1, e2, ef⟩ := box3 ((hoth _ HNOT.out).trans hz4)
  obtain ⟨p0, p1, p2, pf⟩ := box3 ((hoth _ HNOT1.out).trans hp4)
  have HN5 := Lib.hid hz.1
  have HF5 := Lib.hid ((HF3.out.trans (Fr.of_below hb4 fq)).trans hz.2)
  obtain ⟨_, _, _, _, _, _, hR4, _⟩ := hn4
  obtain ⟨k0, k1, k2, k3, kf⟩ := refCell hR4
  clear hb4 r0 r1 r2 rf hz hz4 hp4 hne hoth hR4
  rw [show ((s.came + 1 : Nat) : Int) = (s.came : Int) + 1 by omega] at e0 e1 e2 ef p0 p1 p2 pf HN5 HF5
  go_wp2_with fail
  refine bodyPost_ret (v := .tuple #[p.val, .bool true]) (by simp [results, Try.results40, go_sem, e0, e1, e2]; rfl) rfl ⟨fq, rfl, ?_, ?_⟩
  · exact ((HN5.out.setCell HNOT.out 0 _).setCell HNOT.out 1 _).setCell HNOT.out 2 _
  · exact ((HF5.out.setCell (Nat.le_refl _) 0 _).setCell (Nat.le_refl _) 1 _).setCell (Nat.le_refl _) 2 _

end Go.Proofs.Ytjeiakfdjbnkaaa

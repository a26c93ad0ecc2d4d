/-
  The walk of the reference's Send.
-/
import Derived.Test.YtjeiakfdjbnkaaaRefJoin
import Derived.Deep.RegionLaw
import Derived.Deep.AppendLies
import Derived.WalkKit
import Derived.WalkSpells
import Derived.WalkLawsBesides
import Derived.Below
import Derived.Lib.Hide
import Derived.Outline
import Derived.Deep.RegionWith
namespace Go.Proofs.Ytjeiakfdjbnkaaa
open Go.RowKit
set_option linter.unusedVariables false

/-- A count of the reference's is written. -/
theorem ref_sent {w : World} {fp : List Nat} {R : Nat} {s : RS} (h : RefAt w fp R s) (n : Nat) (hn : n ≤ 5000) :
    RefAt (w.setCell ⟨R, 2, none⟩ (.int .i64 n)) fp R { s with sent := n } ∧ Fr w (w.setCell ⟨R, 2, none⟩ (.int .i64 n)) fp fp := by
  obtain ⟨la, lc, wa, wc, rfl, hnd, hR, hl, hw, hlen, hws, hs, hc⟩ := h
  have k1 := heap_setCell_same w R 2 _ 56 (.int .i64 n) hR
  have hoth : ∀ k, k ≠ R → (w.setCell ⟨R, 2, none⟩ (.int .i64 n)).heap[k]? = w.heap[k]? := fun k hk => Below.heap_setCell _ _ _ _ hk
  have hnd' := hnd
  simp only [List.nodup_cons, List.mem_append, not_or] at hnd'
  obtain ⟨⟨hRl, hRw⟩, _⟩ := hnd'
  exact ⟨⟨la, lc, wa, wc, rfl, hnd, by rw [k1]; rfl, ownsRow_kept hl (fun q hq => hoth q (fun e => hRl (by rw [← e]; exact (ownBlock_blk _ _ _ _).1 hq))), ownsRow_kept hw (fun q hq => hoth q (fun e => hRw (by rw [← e]; exact (ownBlock_blk _ _ _ _).1 hq))), hlen, hws, hn, hc⟩,
    ⟨rfl, rfl, rfl, by simp [World.setCell], fun k hk hnm => hoth k (fun e => hnm (by simp [e])), fun k hk => .inl hk⟩⟩

theorem ref_came {w : World} {fp : List Nat} {R : Nat} {s : RS} (h : RefAt w fp R s) (n : Nat) (hn : n ≤ 5000) :
    RefAt (w.setCell ⟨R, 3, none⟩ (.int .i64 n)) fp R { s with came := n } ∧ Fr w (w.setCell ⟨R, 3, none⟩ (.int .i64 n)) fp fp := by
  obtain ⟨la, lc, wa, wc, rfl, hnd, hR, hl, hw, hlen, hws, hs, hc⟩ := h
  have k1 := heap_setCell_same w R 3 _ 56 (.int .i64 n) hR
  have hoth : ∀ k, k ≠ R → (w.setCell ⟨R, 3, none⟩ (.int .i64 n)).heap[k]? = w.heap[k]? := fun k hk => Below.heap_setCell _ _ _ _ hk
  have hnd' := hnd
  simp only [List.nodup_cons, List.mem_append, not_or] at hnd'
  obtain ⟨⟨hRl, hRw⟩, _⟩ := hnd'
  exact ⟨⟨la, lc, wa, wc, rfl, hnd, by rw [k1]; rfl, ownsRow_kept hl (fun q hq => hoth q (fun e => hRl (by rw [← e]; exact (ownBlock_blk _ _ _ _).1 hq))), ownsRow_kept hw (fun q hq => hoth q (fun e => hRw (by rw [← e]; exact (ownBlock_blk _ _ _ _).1 hq))), hlen, hws, hs, hn⟩,
    ⟨rfl, rfl, rfl, by simp [World.setCell], fun k hk hnm => hoth k (fun e => hnm (by simp [e])), fun k hk => .inl hk⟩⟩

theorem ref_app {w1 w3 : World} {R n lc : Nat} {la wa : Option Addr} {ln llc wn wc sent came : Nat} {o : Obj} (hR : w1.heap[R]? = some (.cells (refCells la ln llc wa wn wc sent came) 56 (0, 0))) (hne : R ∉ blk la)
    (hgrow : (w1.alloc o).grownBy w3 (Value.slice la n lc).ownBlock) : w3.cell? ⟨R, 0, none⟩ = some (.slice la ln llc) ∧ w3.frozen? ⟨R, 0, none⟩ = false := by
  have hlt := (Array.getElem?_eq_some_iff.1 hR).1
  have h3 : w3.heap[R]? = some (.cells (refCells la ln llc wa wn wc sent came) 56 (0, 0)) :=
    ((hgrow.block R (by simp; omega) (fun e => hne ((ownBlock_blk _ _ _ _).1 e.symm))).trans (Below.heap_alloc _ _ _ hlt)).trans hR
  exact ⟨(refCell h3).1, (refCell h3).2.2.2.2 0⟩

theorem ref_app_fr {w1 w3 : World} {n lc g : Nat} {la : Option Addr} {o : Obj} (hgrow : (w1.alloc o).grownBy w3 (Value.slice la n lc).ownBlock) (hat : (Value.slice la n lc).ownBlock = some g ∨ g = (w1.alloc o).heap.size) :
    Fr w1 w3 (blk la) [g] :=
  ⟨hgrow.os, hgrow.tape, hgrow.output, by have := hgrow.size; simp at this; omega,
    fun k hk hn => (hgrow.block k (by simp; omega) (fun e => hn ((ownBlock_blk _ _ _ _).1 e.symm))).trans (Below.heap_alloc _ _ _ hk),
    fun k hk => by
      simp at hk; subst hk
      rcases hat with h | h
      · exact .inl ((ownBlock_blk _ _ _ _).1 h)
      · exact .inr (by simp at h; omega)⟩

set_option maxRecDepth 100000 in
set_option maxHeartbeats 400000 in
theorem refsend_full (fp : List Nat) (R : Nat) (s : RS) (w : World) (p : Pk) (hn : RefAt w fp R s) (hroom : 256 ≤ s.ps.length) :
    Calls Try.prog 39 #[.pointer (some ⟨R, 0, none⟩), .agg #[.int .i64 p.src, .int .i64 p.dst, .string p.txt]] w fun e w' => e = .returned (.bool false) ∧ Below w.heap.size w w' := by
  obtain ⟨la, lc, wa, wc, rfl, hnd, hR, hl, hw, hlen, hws, hs, hc⟩ := hn
  obtain ⟨c0, c1, c2, c3, cf⟩ := refCell hR
  have d0 := cell_past (.cells #[.int .i64 p.src, .int .i64 p.dst, .string p.txt] 40) c0
  clear hR hl hw hnd
  go_enter Try.func39, Try.ntmps39
  go_wp2_with fail
  go_ret
  exact ⟨rfl, (Below.refl _ _).alloc (Nat.le_refl _) _⟩

set_option maxRecDepth 100000 in
set_option maxHeartbeats 400000 in
theorem refsend_calls (fp : List Nat) (R : Nat) (s : RS) (w : World) (p : Pk) (hn : RefAt w fp R s) (hsn : s.sent < 5000) (hroom : s.ps.length < 256) :
    Calls Try.prog 39 #[.pointer (some ⟨R, 0, none⟩), .agg #[.int .i64 p.src, .int .i64 p.dst, .string p.txt]] w (RDid (.bool true) w fp R ⟨s.ps ++ [p], s.ws, s.sent + 1, s.came⟩) := by
  have hb0 : Below w.heap.size w (w.alloc (.cells #[.int .i64 p.src, .int .i64 p.dst, .string p.txt] 40)) := (Below.refl _ w).alloc (Nat.le_refl _) _
  have hn0 := hn.below hb0
  have HN := Lib.hid hn0
  have HB0 := Lib.hid hb0
  have hbx : (w.alloc (.cells #[.int .i64 p.src, .int .i64 p.dst, .string p.txt] 40)).heap[w.heap.size]? = some (.cells #[.int .i64 p.src, .int .i64 p.dst, .string p.txt] 40 (0, 0)) := heap_alloc_new w _
  obtain ⟨la, lc, wa, wc, rfl, hnd, hR, hl, hw, hlen, hws, hs, hc⟩ := hn0
  obtain ⟨c0, c1, c2, c3, cf⟩ := refCell hR
  obtain ⟨i0, hi, hz0, hz1, hz2⟩ := info_parts info40
  have S1 : Hid (∀ o, ((w.alloc (.cells #[.int .i64 p.src, .int .i64 p.dst, .string p.txt] 40)).alloc o).ownsRow 0 40 3 (.slice la s.ps.length lc) s.ps.length (pkCells s.ps)) := fun o => hl.alloc o
  have d0 := cell_past (.cells #[.int .i64 p.src, .int .i64 p.dst, .string p.txt] 40) c0
  have HR := Lib.hid hR
  have HND := Lib.hid hnd
  have HW := Lib.hid hw
  have HNR : Hid (R ∉ blk la) := by simp only [List.nodup_cons, List.mem_append, not_or] at hnd; exact hnd.1.1
  clear hR hl hw hnd hn hb0 hbx
  go_enter Try.func39, Try.ntmps39
  go_wp2_with fail
  go_region_law (refine step_append_lies _ rfl (.tmp 15) (.tmp 17) 45 rfl 0 40 i0 _ 3 32 Try.underlying45 hi hz0 hz1 hz2 rfl (by decide) (.slice la s.ps.length lc) s.ps.length (pkCells s.ps) (by simp [Act.eval]) (S1.out _) ⟨w.heap.size + 1, 0, none⟩ 1 1 p.cells (by simp [Act.eval]) rfl (by have h := new_cells (w.alloc (.cells #[.int .i64 p.src, .int .i64 p.dst, .string p.txt] 40)) p (0, 0); simp at h ⊢; exact h) (one_cells p) (by omega) (by simp only [maxLen]; omega) (by omega) (Nat.zero_le _) _ rfl ?_; intro g cap w3 hown hgrow hat hg; have hkept := ref_app (w1 := (w.alloc (.cells #[.int .i64 p.src, .int .i64 p.dst, .string p.txt] 40))) (w3 := w3) (la := la) (n := s.ps.length) (lc := lc) (o := (.cells #[.int .i64 p.src, .int .i64 p.dst, .string p.txt] 40)) HR.out HNR.out ⟨hgrow.os, hgrow.tape, hgrow.output, hgrow.size, hgrow.block⟩; obtain ⟨e0, ef⟩ := hkept)
  all_goals
    have hrw := ref_rowed (w := (w.alloc (.cells #[.int .i64 p.src, .int .i64 p.dst, .string p.txt] 40))) (w3 := w3) (s := s) (ps' := s.ps ++ [p]) (n' := s.ps.length + 1) HR.out HND.out HW.out HN.out.valid (by simp) (by rw [pkCells_put]; exact hown)
      (ref_app_fr ⟨hgrow.os, hgrow.tape, hgrow.output, hgrow.size, hgrow.block⟩ hat) (by simp; omega) hws hs hc
    have hs2 := ref_sent hrw.1 (s.sent + 1) (by omega)
    have HF := Lib.hid ((Fr.of_below HB0.out _).trans (hrw.2.trans hs2.2))
    obtain ⟨la2, lc2, wa2, wc2, _, _, hR2, _⟩ := hrw.1
    obtain ⟨f0, f1, f2, f3, ff⟩ := refCell hR2
    have HS2 := Lib.hid hs2.1
    clear hs2 hrw hR2 hown hgrow hat hg e0 ef c0 c1 c2 c3 cf d0 hi hz0 hz1 hz2
    go_wp2_with fail
    go_ret
    exact ⟨_, rfl, HS2.out, HF.out⟩

end Go.Proofs.Ytjeiakfdjbnkaaa

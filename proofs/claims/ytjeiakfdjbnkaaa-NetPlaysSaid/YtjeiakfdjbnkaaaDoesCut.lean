/-
  The walk of the law's does: Cut.
-/
import Derived.Test.YtjeiakfdjbnkaaaDoesMore
import Derived.Deep.AppendLies
import Derived.Deep.RegionLaw
namespace Go.Proofs.Ytjeiakfdjbnkaaa
open Go.RowKit
set_option linter.unusedVariables false
attribute [local go_sem ↓] Go.wp_at_zero Go.wp_at_succ

theorem ref_app1 {w1 w3 : World} {R n lc : Nat} {la wa : Option Addr} {ln llc wn wc sent came : Nat} {o : Obj} (hR : w1.heap[R]? = some (.cells (refCells la ln llc wa wn wc sent came) 56 (0, 0))) (hne : R ∉ blk wa)
    (hgrow : (w1.alloc o).grownBy w3 (Value.slice wa n lc).ownBlock) : w3.cell? ⟨R, 1, none⟩ = some (.slice wa wn wc) ∧ w3.frozen? ⟨R, 1, none⟩ = false := by
  have hlt := (Array.getElem?_eq_some_iff.1 hR).1
  have h3 : w3.heap[R]? = some (.cells (refCells la ln llc wa wn wc sent came) 56 (0, 0)) :=
    ((hgrow.block R (by simp; omega) (fun e => hne ((ownBlock_blk _ _ _ _).1 e.symm))).trans (Below.heap_alloc _ _ _ hlt)).trans hR
  exact ⟨(refCell h3).2.1, (refCell h3).2.2.2.2 1⟩

theorem cell_setR {w : World} {R b o p : Nat} (h : b ≠ R) (v : Value) : (w.setCell ⟨R, p, none⟩ v).cell? ⟨b, o, none⟩ = w.cell? ⟨b, o, none⟩ :=
  World.cell?_of_block (Below.heap_setCell _ _ _ _ h)

theorem box_app {w1 w3 : World} {b0 n lc : Nat} {wa : Option Addr} {o : Obj} {p1 p2 p3 p4 : Value} (hb : w1.heap[b0]? = some (.cells #[p1, p2, p3, p4] 47 (0, 0))) (hne : b0 ∉ blk wa)
    (hgrow : (w1.alloc o).grownBy w3 (Value.slice wa n lc).ownBlock) : w3.cell? ⟨b0, 1, none⟩ = some p2 ∧ w3.cell? ⟨b0, 2, none⟩ = some p3 := by
  have hlt := (Array.getElem?_eq_some_iff.1 hb).1
  have h3 : w3.heap[b0]? = some (.cells #[p1, p2, p3, p4] 47 (0, 0)) :=
    ((hgrow.block b0 (by simp; omega) (fun e => hne ((ownBlock_blk _ _ _ _).1 e.symm))).trans (Below.heap_alloc _ _ _ hlt)).trans hb
  refine ⟨?_, ?_⟩ <;> rw [cell_of_row w3 b0 _ _ 47 (0, 0) h3] <;> rfl

set_option maxRecDepth 100000 in
set_option maxHeartbeats 4000000 in
theorem does_cut (fn fr : List Nat) (B R : Nat) (s : NS) (r : RS) (w : World) (x y : Int) (t : ByteArray) (h : Side w fn fr B R s r) (hl : Like s r) (hw : r.ws.length < 5000) :
    Calls Try.prog 32 #[.pointer (some ⟨B, 0, none⟩), .pointer (some ⟨R, 0, none⟩), .agg #[.int .i64 4, .int .i64 x, .int .i64 y, .string t]] w fun e w' => e = .returned (.bool true) ∧ Both fn fr B R s r w w' := by
  have hd := DoAt.start ⟨4, x, y, t⟩ h
  have HL := Lib.hid hl
  have HD := Lib.hid hd
  obtain ⟨c0, c1, c2, c3⟩ := hd.cells
  obtain ⟨i0, hi, hz0, hz1, hz2⟩ := info_parts info50
  have hone : ∀ u ∈ ([.int .i64 x, .int .i64 y] : List Value), u.oneCell' = true := wy_one [(x, y)]
  have HONE := Lib.hid hone
  clear h hl hd hone
  go_enter Try.func32, Try.ntmps32
  go_wp2_with fail
  refine (cut_calls fn B s _ x y HD.out.side.1).mono ?_
  rintro e w2 ⟨f2, rfl, hn2, hf2⟩
  have h2 := HD.out.net hn2 hf2
  have h2d := h2.drew
  have H2 := Lib.hid h2d
  obtain ⟨k0, k1, k2, k3⟩ := h2.cells
  obtain ⟨la, lc, wa, wc, rfl, hnd, hR, hrow, hws, hlen, hwl, hsn, hcm⟩ := h2.side.2.1
  obtain ⟨e0, e1, e2, e3, ef⟩ := refCell hR
  have HR : Hid (w2.drew.heap[R]? = some (.cells (refCells la r.ps.length lc wa r.ws.length wc r.sent r.came) 56 (0, 0))) := hR
  have HND := Lib.hid hnd
  have HROW : Hid (w2.drew.ownsRow 0 40 3 (.slice la r.ps.length lc) r.ps.length (pkCells r.ps)) := hrow.drew
  have HWS : Hid (∀ o, (w2.drew.alloc o).ownsRow 0 50 2 (.slice wa r.ws.length wc) r.ws.length (wyCells r.ws)) := fun o => hws.drew.alloc o
  have HNR : Hid (R ∉ blk wa) := by simp only [List.nodup_cons, List.mem_append, not_or] at hnd; exact hnd.1.2
  have HBX := Lib.hid h2d.box
  have HRB : Hid (R ≠ w.heap.size) := fun e => h2.far (by simp [e])
  have HNB : Hid (w.heap.size ∉ blk wa) := fun hm => h2.far (by simp [hm])
  clear hn2 hf2 h2 h2d c0 c1 c2 c3 hnd hR hrow hws
  go_wp2_with fail
  clear k0 k3 e0 e2 e3
  have d1 := cell_past (.cells #[.int .i64 x, .int .i64 y] 50) e1
  go_region_law
    ((refine step_append_lies _ (by rfl) (.tmp 93) (.tmp 99) 51 (by rfl) 0 50 i0 _ 2 16 Try.underlying51 hi hz0 hz1 hz2 rfl (by decide) (.slice wa r.ws.length wc) r.ws.length (wyCells r.ws) (by simp [Act.eval]) (HWS.out _) ⟨w2.heap.size, 0, none⟩ 1 1 [.int .i64 x, .int .i64 y] (by simp [Act.eval]) rfl (new_way w2.drew x y) HONE.out (by omega) (by simp only [maxLen]; omega) (by omega) (Nat.zero_le _) _ rfl ?_; intro g cap w3 hown hgrow hat hg; have hkept := ref_app1 (w1 := w2.drew) HR.out HNR.out hgrow; obtain ⟨n1, n1f⟩ := hkept; have hbx := box_app (w1 := w2.drew) HBX.out HNB.out hgrow; obtain ⟨n2, n3⟩ := hbx))
  all_goals
    have hrw := ref_wayed (w := w2.drew) (w3 := w3) (s := r) (ws' := r.ws ++ [(x, y)]) (n' := r.ws.length + 1) HR.out HND.out HROW.out H2.out.side.2.1.valid (by simp) (by rw [wyCells_append]; exact hown)
      (ref_app_fr (w1 := w2.drew) (la := wa) hgrow hat) hlen (by simp; omega) hsn hcm
    have h4 := H2.out.ref hrw.1 hrw.2
    have hlk : Like ⟨s.ps, cutWay s.cut (btw x y), s.sent, s.came⟩ ⟨r.ps, r.ws ++ [(x, y)], r.sent, r.came⟩ := by
      obtain ⟨e1, e2, e3, e4, e5⟩ := HL.out
      exact ⟨e1, e2, e3, e4.put x y, cutWay_nodup e5⟩
    have HB := Lib.hid (h4.both (s := s) (r := r) ⟨hlk, by simp, by simp, by simp⟩)
    clear hrw h4 hlk hown hgrow hat hg n1 n1f n2 n3 k1 k2 e1 d1 ef hi hz0 hz1 hz2
    go_wp2_with fail
    go_ret
    exact ⟨rfl, HB.out⟩

end Go.Proofs.Ytjeiakfdjbnkaaa

/-
  The reference's network in memory.
-/
import Derived.Test.YtjeiakfdjbnkaaaNetAny
import Derived.WalkKit
import Derived.Below
import Derived.Lib.Hide
namespace Go.Proofs.Ytjeiakfdjbnkaaa
open Go.RowKit
set_option linter.unusedVariables false

/-- The cells of a list of ways. -/
def wyCells (ws : List (Int × Int)) : List Value := ws.flatMap fun q => [.int .i64 q.1, .int .i64 q.2]

theorem wyCells_append (a b : List (Int × Int)) : wyCells (a ++ b) = wyCells a ++ wyCells b := by simp [wyCells]
theorem wyCells_length (ws : List (Int × Int)) : (wyCells ws).length = ws.length * 2 := by
  induction ws with
  | nil => rfl
  | cons q ws ih =>
    have : wyCells (q :: ws) = [.int .i64 q.1, .int .i64 q.2] ++ wyCells ws := rfl
    rw [this, List.length_append, ih]; simp; omega
theorem wy_get (ws : List (Int × Int)) (i : Nat) (h : i < ws.length) (k : Nat) (hk : k < 2) : (wyCells ws)[i * 2 + k]? = ([.int .i64 (ws.getD i (0, 0)).1, .int .i64 (ws.getD i (0, 0)).2] : List Value)[k]? := by
  induction ws generalizing i with
  | nil => simp at h
  | cons p ws ih =>
    have e : wyCells (p :: ws) = [.int .i64 p.1, .int .i64 p.2] ++ wyCells ws := rfl
    have h3 : ([.int .i64 p.1, .int .i64 p.2] : List Value).length = 2 := rfl
    rw [e]
    cases i with
    | zero => rw [List.getElem?_append_left (by rw [h3]; omega)]; simp
    | succ i =>
      rw [List.getElem?_append_right (by rw [h3]; omega), h3, show (i + 1) * 2 + k - 2 = i * 2 + k by omega, ih i (by simpa using h)]
      rfl
theorem wy_cells {w : World} {g cap n : Nat} {ws : List (Int × Int)} (hn : n = ws.length) (h : w.ownsRow 0 50 2 (.slice (some ⟨g, 0, none⟩) n cap) n (wyCells ws)) (i : Nat) (hi : i < ws.length) :
    w.cell? ⟨g, i * 2, none⟩ = some (.int .i64 (ws.getD i (0, 0)).1) ∧ w.cell? ⟨g, i * 2 + 1, none⟩ = some (.int .i64 (ws.getD i (0, 0)).2) := by
  subst hn
  refine ⟨?_, ?_⟩
  · rw [h.cellAt (i * 2) (by omega)]; exact wy_get ws i hi 0 (by omega)
  · rw [h.cellAt (i * 2 + 1) (by omega)]; exact wy_get ws i hi 1 (by omega)
theorem wy_one (ws : List (Int × Int)) : ∀ u ∈ wyCells ws, u.oneCell' = true := by
  intro u hu
  obtain ⟨p, _, hu⟩ := List.mem_flatMap.1 hu
  simp only [List.mem_cons, List.not_mem_nil, or_false] at hu
  rcases hu with rfl | rfl <;> rfl

/-- The reference's network. -/
structure RS where
  ps : List Pk
  ws : List (Int × Int)
  sent : Nat
  came : Nat

/-- Its four cells. -/
def refCells (la : Option Addr) (ln lc : Nat) (wa : Option Addr) (wn wc : Nat) (sent came : Nat) : Array Value := #[.slice la ln lc, .slice wa wn wc, .int .i64 sent, .int .i64 came]

/-- The reference's network in memory. -/
def RefAt (w : World) (fr : List Nat) (R : Nat) (s : RS) : Prop :=
  ∃ la lc wa wc, fr = R :: (blk la ++ blk wa) ∧ fr.Nodup ∧ w.heap[R]? = some (.cells (refCells la s.ps.length lc wa s.ws.length wc s.sent s.came) 56 (0, 0)) ∧
    w.ownsRow 0 40 3 (.slice la s.ps.length lc) s.ps.length (pkCells s.ps) ∧ w.ownsRow 0 50 2 (.slice wa s.ws.length wc) s.ws.length (wyCells s.ws) ∧ s.ps.length ≤ 256 ∧ s.ws.length ≤ 5000 ∧ s.sent ≤ 5000 ∧ s.came ≤ 5000

theorem RefAt.valid {w : World} {fr : List Nat} {R : Nat} {s : RS} (h : RefAt w fr R s) : ∀ k ∈ fr, k < w.heap.size := by
  obtain ⟨la, lc, wa, wc, rfl, _, hR, hl, hw, _⟩ := h
  intro k hk
  simp only [List.mem_cons, List.mem_append] at hk
  rcases hk with rfl | hk | hk
  · exact (Array.getElem?_eq_some_iff.1 hR).1
  · exact (hl.lt k ((ownBlock_blk _ _ _ _).2 hk)).2
  · exact (hw.lt k ((ownBlock_blk _ _ _ _).2 hk)).2

theorem refCell {w : World} {R : Nat} {la wa : Option Addr} {ln lc wn wc sent came : Nat} (h : w.heap[R]? = some (.cells (refCells la ln lc wa wn wc sent came) 56 (0, 0))) :
    w.cell? ⟨R, 0, none⟩ = some (.slice la ln lc) ∧ w.cell? ⟨R, 1, none⟩ = some (.slice wa wn wc) ∧ w.cell? ⟨R, 2, none⟩ = some (.int .i64 sent) ∧ w.cell? ⟨R, 3, none⟩ = some (.int .i64 came) ∧
    (∀ o, w.frozen? ⟨R, o, none⟩ = false) := by
  refine ⟨?_, ?_, ?_, ?_, fun o => frozen_of_row w R o _ 56 h⟩ <;> rw [cell_of_row w R _ _ 56 (0, 0) h] <;> rfl

theorem RefAt.kept {w w' : World} {fp fq fr : List Nat} {R : Nat} {s : RS} (h : RefAt w fp R s) (hf : Fr w w' fq fr) (hd : ∀ k ∈ fp, k ∉ fq) : RefAt w' fp R s := by
  have hv := h.valid
  obtain ⟨la, lc, wa, wc, rfl, hnd, hR, hl, hw, rest⟩ := h
  have hs : ∀ k ∈ R :: (blk la ++ blk wa), w'.heap[k]? = w.heap[k]? := fun k hk => hf.block k (hv k hk) (hd k hk)
  exact ⟨la, lc, wa, wc, rfl, hnd, by rw [hs R (by simp)]; exact hR, ownsRow_kept hl (fun g hg => hs g (by simp [(ownBlock_blk _ _ _ _).1 hg])), ownsRow_kept hw (fun g hg => hs g (by simp [(ownBlock_blk _ _ _ _).1 hg])), rest⟩

theorem RefAt.below {w w' : World} {fp : List Nat} {R : Nat} {s : RS} (h : RefAt w fp R s) (hb : Below w.heap.size w w') : RefAt w' fp R s :=
  h.kept (Fr.of_below hb []) (by simp)

/-- What a method of the reference's network comes to. -/
def RDid (r : Value) (w : World) (fp : List Nat) (R : Nat) (s' : RS) (e : Ending) (w' : World) : Prop := ∃ fq, e = .returned r ∧ RefAt w' fq R s' ∧ Fr w w' fp fq

/-- A new row of packets is stored. -/
theorem ref_rowed {w w3 : World} {R g cap' n' : Nat} {la wa : Option Addr} {lc wc : Nat} {s : RS} {ps' : List Pk}
    (hR : w.heap[R]? = some (.cells (refCells la s.ps.length lc wa s.ws.length wc s.sent s.came) 56 (0, 0))) (hnd : (R :: (blk la ++ blk wa)).Nodup) (hw : w.ownsRow 0 50 2 (.slice wa s.ws.length wc) s.ws.length (wyCells s.ws))
    (hv : ∀ k ∈ R :: (blk la ++ blk wa), k < w.heap.size) (hn' : n' = ps'.length)
    (hown : w3.ownsRow 0 40 3 (.slice (some ⟨g, 0, none⟩) n' cap') n' (pkCells ps')) (hf : Fr w w3 (blk la) [g])
    (hlen : ps'.length ≤ 256) (hws : s.ws.length ≤ 5000) (hs : s.sent ≤ 5000) (hc : s.came ≤ 5000) :
    RefAt (w3.setCell ⟨R, 0, none⟩ (.slice (some ⟨g, 0, none⟩) n' cap')) (R :: (blk (some ⟨g, 0, none⟩) ++ blk wa)) R ⟨ps', s.ws, s.sent, s.came⟩ ∧
    Fr w (w3.setCell ⟨R, 0, none⟩ (.slice (some ⟨g, 0, none⟩) n' cap')) (R :: (blk la ++ blk wa)) (R :: (blk (some ⟨g, 0, none⟩) ++ blk wa)) := by
  subst hn'
  have hnd' := hnd
  simp only [List.nodup_cons, List.nodup_append, List.mem_append, not_or] at hnd'
  obtain ⟨⟨hRl, hRw⟩, hnl, hnw, hlw⟩ := hnd'
  have hRs := hv R (by simp)
  have hat := hf.src g (by simp)
  have hgR : g ≠ R := by
    rcases hat with h | h
    · intro e; subst e; exact hRl h
    · omega
  have hgw : g ∉ blk wa := by
    rcases hat with h | h
    · intro h2; exact hlw g h g h2 rfl
    · intro h2; have := hv g (by simp [h2]); omega
  have hR3 : w3.heap[R]? = some (.cells (refCells la s.ps.length lc wa s.ws.length wc s.sent s.came) 56 (0, 0)) := (hf.block R hRs hRl).trans hR
  have k1 := heap_setCell_same w3 R 0 _ 56 (.slice (some ⟨g, 0, none⟩) ps'.length cap') hR3
  have hoth : ∀ k, k ≠ R → (w3.setCell ⟨R, 0, none⟩ (.slice (some ⟨g, 0, none⟩) ps'.length cap')).heap[k]? = w3.heap[k]? := fun k hk => Below.heap_setCell _ _ _ _ hk
  refine ⟨⟨some ⟨g, 0, none⟩, cap', wa, wc, rfl, ?_, by rw [k1]; rfl, ?_, ?_, hlen, hws, hs, hc⟩, ?_⟩
  · simp only [List.nodup_cons, List.mem_append, blk, Option.map_some, Option.toList_some, List.mem_singleton, not_or, List.cons_append, List.nil_append]
    refine ⟨?_, hgw, hnw⟩
    simp only [List.mem_cons, not_or]
    exact ⟨fun e => hgR e.symm, hRw⟩
  · exact ownsRow_kept hown (fun q hq => by cases hq; exact hoth g hgR)
  · refine ownsRow_kept hw (fun q hq => ?_)
    have hq' := (ownBlock_blk _ _ _ _).1 hq
    rw [hoth q (fun e => hRw (by rw [← e]; exact hq'))]
    exact hf.block q (hv q (by simp [hq'])) (fun h => hlw q h q hq' rfl)
  · refine ⟨hf.os, hf.tape, hf.output, ?_, fun k hk hn => ?_, fun k hk => ?_⟩
    · have := hf.size; simp at this ⊢; omega
    · simp only [List.mem_cons, List.mem_append, not_or] at hn
      rw [hoth k hn.1]; exact hf.block k hk hn.2.1
    · simp only [blk, Option.map_some, Option.toList_some, List.cons_append, List.nil_append, List.mem_cons] at hk
      rcases hk with rfl | rfl | hk
      · exact .inl (by simp)
      · rcases hat with h | h
        · exact .inl (by simp [h])
        · exact .inr h
      · exact .inl (by simp; exact .inr (.inr (by simpa [blk] using hk)))

/-- A new row of ways is stored. -/
theorem ref_wayed {w w3 : World} {R g cap' n' : Nat} {la wa : Option Addr} {lc wc : Nat} {s : RS} {ws' : List (Int × Int)}
    (hR : w.heap[R]? = some (.cells (refCells la s.ps.length lc wa s.ws.length wc s.sent s.came) 56 (0, 0))) (hnd : (R :: (blk la ++ blk wa)).Nodup) (hl : w.ownsRow 0 40 3 (.slice la s.ps.length lc) s.ps.length (pkCells s.ps))
    (hv : ∀ k ∈ R :: (blk la ++ blk wa), k < w.heap.size) (hn' : n' = ws'.length)
    (hown : w3.ownsRow 0 50 2 (.slice (some ⟨g, 0, none⟩) n' cap') n' (wyCells ws')) (hf : Fr w w3 (blk wa) [g])
    (hlen : s.ps.length ≤ 256) (hws : ws'.length ≤ 5000) (hs : s.sent ≤ 5000) (hc : s.came ≤ 5000) :
    RefAt (w3.setCell ⟨R, 1, none⟩ (.slice (some ⟨g, 0, none⟩) n' cap')) (R :: (blk la ++ blk (some ⟨g, 0, none⟩))) R ⟨s.ps, ws', s.sent, s.came⟩ ∧
    Fr w (w3.setCell ⟨R, 1, none⟩ (.slice (some ⟨g, 0, none⟩) n' cap')) (R :: (blk la ++ blk wa)) (R :: (blk la ++ blk (some ⟨g, 0, none⟩))) := by
  subst hn'
  have hnd' := hnd
  simp only [List.nodup_cons, List.nodup_append, List.mem_append, not_or] at hnd'
  obtain ⟨⟨hRl, hRw⟩, hnl, hnw, hlw⟩ := hnd'
  have hRs := hv R (by simp)
  have hat := hf.src g (by simp)
  have hgR : g ≠ R := by
    rcases hat with h | h
    · intro e; subst e; exact hRw h
    · omega
  have hgl : g ∉ blk la := by
    rcases hat with h | h
    · intro h2; exact hlw g h2 g h rfl
    · intro h2; have := hv g (by simp [h2]); omega
  have hR3 : w3.heap[R]? = some (.cells (refCells la s.ps.length lc wa s.ws.length wc s.sent s.came) 56 (0, 0)) := (hf.block R hRs hRw).trans hR
  have k1 := heap_setCell_same w3 R 1 _ 56 (.slice (some ⟨g, 0, none⟩) ws'.length cap') hR3
  have hoth : ∀ k, k ≠ R → (w3.setCell ⟨R, 1, none⟩ (.slice (some ⟨g, 0, none⟩) ws'.length cap')).heap[k]? = w3.heap[k]? := fun k hk => Below.heap_setCell _ _ _ _ hk
  refine ⟨⟨la, lc, some ⟨g, 0, none⟩, cap', rfl, ?_, by rw [k1]; rfl, ?_, ?_, hlen, hws, hs, hc⟩, ?_⟩
  · simp only [List.nodup_cons, List.nodup_append, List.mem_append, not_or]
    refine ⟨⟨hRl, by simp [blk]; exact fun e => hgR e.symm⟩, hnl, by simp [blk], fun a ha b hb => ?_⟩
    have : b = g := by simpa [blk] using hb
    subst this; intro e; subst e; exact hgl ha
  · refine ownsRow_kept hl (fun q hq => ?_)
    have hq' := (ownBlock_blk _ _ _ _).1 hq
    rw [hoth q (fun e => hRl (by rw [← e]; exact hq'))]
    exact hf.block q (hv q (by simp [hq'])) (fun h => hlw q hq' q h rfl)
  · exact ownsRow_kept hown (fun q hq => by cases hq; exact hoth g hgR)
  · refine ⟨hf.os, hf.tape, hf.output, ?_, fun k hk hn => ?_, fun k hk => ?_⟩
    · have := hf.size; simp at this ⊢; omega
    · simp only [List.mem_cons, List.mem_append, not_or] at hn
      rw [hoth k hn.1]; exact hf.block k hk hn.2.2
    · simp only [List.mem_cons, List.mem_append] at hk
      rcases hk with rfl | hk | hk
      · exact .inl (by simp)
      · exact .inl (by simp [hk])
      · have : k = g := by simpa [blk] using hk
        subst this
        rcases hat with h | h
        · exact .inl (by simp [h])
        · exact .inr h

end Go.Proofs.Ytjeiakfdjbnkaaa

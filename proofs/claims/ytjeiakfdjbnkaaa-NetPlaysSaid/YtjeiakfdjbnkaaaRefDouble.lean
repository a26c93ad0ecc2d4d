/-
  The walk of the reference's Double.
-/
import Derived.Test.YtjeiakfdjbnkaaaRefTake
import Derived.Deep.RegionHeld2
import Derived.WalkKit
import Derived.WalkSpells
import Derived.WalkLawsBesides
import Derived.Below
import Derived.Lib.Hide
import Derived.Outline
import Derived.Deep.RegionWith
namespace Go.Proofs.Ytjeiakfdjbnkaaa
open Go.RowKit
set_option linter.unusedVariables false

set_option maxRecDepth 100000 in
set_option maxHeartbeats 400000 in
theorem refdouble_no (fp : List Nat) (R : Nat) (s : RS) (w : World) (i : Int) (hn : RefAt w fp R s) (hi : i < 0 ∨ (s.ps.length : Int) ≤ i) :
    Calls Try.prog 42 #[.pointer (some ⟨R, 0, none⟩), .int .i64 i] w fun e w' => e = .returned (.bool false) ∧ w = w' := by
  have HN := Lib.hid hn
  have hd : decide (0 ≤ i ∧ i < s.ps.length) = false := by simp; omega
  have HD := Lib.hid hd
  clear hn hi hd
  go_enter Try.func42, Try.ntmps42
  go_wp2_with fail
  refine (there_calls _ _ _ _ _ HN.out).mono ?_
  rintro e w' ⟨rfl, rfl⟩
  rw [HD.out]
  go_wp2_with fail
  go_ret
  exact ⟨rfl, rfl⟩

set_option maxRecDepth 100000 in
set_option maxHeartbeats 400000 in
theorem refdouble_full (fp : List Nat) (R : Nat) (s : RS) (w : World) (i : Nat) (hn : RefAt w fp R s) (hi : i < s.ps.length) (hf : 256 ≤ s.ps.length) :
    Calls Try.prog 42 #[.pointer (some ⟨R, 0, none⟩), .int .i64 i] w fun e w' => e = .returned (.bool false) ∧ w = w' := by
  have HN := Lib.hid hn
  have hd : decide (0 ≤ (i : Int) ∧ (i : Int) < s.ps.length) = true := by simp; omega
  have HD := Lib.hid hd
  obtain ⟨la, lc, wa, wc, rfl, hnd, hR, hl, hw, hlen, hws, hs, hc⟩ := hn
  obtain ⟨c0, c1, c2, c3, cf⟩ := refCell hR
  clear hR hl hw hnd hd
  go_enter Try.func42, Try.ntmps42
  go_wp2_with fail
  refine (there_calls _ _ _ _ _ HN.out).mono ?_
  rintro e w' ⟨rfl, rfl⟩
  rw [HD.out]
  go_wp2_with fail
  go_ret
  exact ⟨rfl, rfl⟩

set_option maxRecDepth 100000 in
set_option maxHeartbeats 4000000 in
theorem refdouble_yes (fp : List Nat) (R : Nat) (s : RS) (w : World) (i : Nat) (hn : RefAt w fp R s) (hi : i < s.ps.length) (hf : s.ps.length < 256) :
    Calls Try.prog 42 #[.pointer (some ⟨R, 0, none⟩), .int .i64 i] w (RDid (.bool true) w fp R ⟨s.ps ++ [s.ps.getD i Pk.zero], s.ws, s.sent, s.came⟩) := by
  have HN := Lib.hid hn
  have hd : decide (0 ≤ (i : Int) ∧ (i : Int) < s.ps.length) = true := by simp; omega
  have HD := Lib.hid hd
  obtain ⟨la, lc, wa, wc, rfl, hnd, hR, hl, hw, hlen, hws, hs, hc⟩ := hn
  obtain ⟨g, lc', hv, _, hg⟩ := hl.form (by omega)
  simp only [Value.slice.injEq, true_and] at hv
  obtain ⟨rfl, rfl⟩ := hv
  obtain ⟨c0, c1, c2, c3, cf⟩ := refCell hR
  obtain ⟨q0, q1, q2⟩ := pk_cells rfl hl i hi
  generalize hp : s.ps.getD i Pk.zero = p at q0 q1 q2
  have HP := Lib.hid hp
  obtain ⟨i0, hi0, hz0, hz1, hz2⟩ := info_parts info40
  have S0 : Hid (∀ w5 : World, w5.heap[g]? = w.heap[g]? → ∀ q u, (pkCells s.ps)[q]? = some u → w5.cell? ((⟨g, 0, none⟩ : Addr).add q) = some u) := by
    intro w5 h5 q u hu
    have e1 : (⟨g, 0, none⟩ : Addr).add q = ⟨g, q, none⟩ := by rw [Addr.add_lit, Nat.zero_add]
    rw [e1, World.cell?_of_block (w := w) h5, hl.cellAt q (by
      have := (List.getElem?_eq_some_iff.1 hu).1
      rw [pkCells_length] at this
      omega)]
    exact hu
  have S1 : Hid ((pkCells s.ps).length = s.ps.length * 3) := pkCells_length _
  have S4 : Hid (∀ u ∈ pkCells s.ps, u.oneCell' = true) := pkCells_one _
  have SA : Hid (((w.alloc (.cells #[] 40)).alloc (.cells #[.int .i64 p.src, .int .i64 p.dst, .string p.txt] 40)).ownsRow 0 40 3 (.slice (some ⟨w.heap.size, 0, none⟩) 0 0) 0 []) := (owns_empty w).alloc _
  have SB : Hid (((w.alloc (.cells #[.int .i64 p.src, .int .i64 p.dst, .string p.txt] 40)).alloc (.cells #[] 40)).ownsRow 0 40 3 (.slice (some ⟨w.heap.size + 1, 0, none⟩) 0 0) 0 []) := by
    have h := owns_empty (w.alloc (.cells #[.int .i64 p.src, .int .i64 p.dst, .string p.txt] 40))
    have e : (w.alloc (.cells #[.int .i64 p.src, .int .i64 p.dst, .string p.txt] 40)).heap.size = w.heap.size + 1 := by simp
    rw [e] at h; exact h
  have SC : Hid ((w.alloc (.cells #[] 40)).ownsRow 0 40 3 (.slice (some ⟨w.heap.size, 0, none⟩) 0 0) 0 []) := owns_empty w
  have BA : Hid (((w.alloc (.cells #[] 40)).alloc (.cells #[.int .i64 p.src, .int .i64 p.dst, .string p.txt] 40)).heap[w.heap.size + 1]? = some (.cells #[.int .i64 p.src, .int .i64 p.dst, .string p.txt] 40 (0, 0))) := by
    have h := heap_alloc_new (w.alloc (.cells #[] 40)) (.cells #[.int .i64 p.src, .int .i64 p.dst, .string p.txt] 40)
    have e : (w.alloc (.cells #[] 40)).heap.size = w.heap.size + 1 := by simp
    rw [e] at h; exact h
  have BB : Hid (((w.alloc (.cells #[.int .i64 p.src, .int .i64 p.dst, .string p.txt] 40)).alloc (.cells #[] 40)).heap[w.heap.size]? = some (.cells #[.int .i64 p.src, .int .i64 p.dst, .string p.txt] 40 (0, 0))) := (Below.heap_alloc _ _ _ (by simp)).trans (heap_alloc_new w _)
  have HGW := Lib.hid hg
  have HR := Lib.hid hR
  have HND := Lib.hid hnd
  have HW := Lib.hid hw
  have hlt := (Array.getElem?_eq_some_iff.1 hR).1
  have HLT := Lib.hid hlt
  have SOF : Hid (∀ w' : World, (∀ k, k < w.heap.size → w'.heap[k]? = w.heap[k]?) → (w'.cell? ⟨R, 0, none⟩ = some (.slice (some ⟨g, 0, none⟩) s.ps.length lc) ∧ w'.frozen? ⟨R, 0, none⟩ = false ∧ w'.cell? ⟨g, i * 3, none⟩ = some (.int .i64 p.src) ∧
      w'.cell? ⟨g, i * 3 + 1, none⟩ = some (.int .i64 p.dst) ∧ w'.cell? ⟨g, i * 3 + 2, none⟩ = some (.string p.txt))) := fun w' hk =>
    ⟨(World.cell?_of_block (hk R hlt)).trans c0, (World.frozen?_of_block (hk R hlt)).trans (cf 0), (World.cell?_of_block (hk g hg)).trans q0, (World.cell?_of_block (hk g hg)).trans q1, (World.cell?_of_block (hk g hg)).trans q2⟩
  clear hR hl hw hnd hg hd hlt hp
  go_enter Try.func42, Try.ntmps42
  go_wp2_with fail
  refine (there_calls _ _ _ _ _ HN.out).mono ?_
  rintro e w' ⟨rfl, rfl⟩
  rw [HD.out]
  go_wp2_with fail
  clear c1 c2 c3 cf
  obtain ⟨x0, _, x1, x2, x3⟩ := SOF.out (w.alloc (.cells #[] 40)) (fun k hk => Below.heap_alloc w _ k hk)
  obtain ⟨y0, _, _, _, _⟩ := SOF.out (w.alloc (.cells #[.int .i64 p.src, .int .i64 p.dst, .string p.txt] 40)) (fun k hk => Below.heap_alloc w _ k hk)
  obtain ⟨z0, _, _, _, _⟩ := SOF.out ((w.alloc (.cells #[] 40)).alloc (.cells #[.int .i64 p.src, .int .i64 p.dst, .string p.txt] 40)) (fun k hk => (Below.heap_alloc (w.alloc _) _ k (by simp; omega)).trans (Below.heap_alloc w _ k hk))
  obtain ⟨v0, _, _, _, _⟩ := SOF.out ((w.alloc (.cells #[.int .i64 p.src, .int .i64 p.dst, .string p.txt] 40)).alloc (.cells #[] 40)) (fun k hk => (Below.heap_alloc (w.alloc _) _ k (by simp; omega)).trans (Below.heap_alloc w _ k hk))
  go_region_law
    (first
      | (refine step_append_any rfl (.tmp 18) (.tmp 22) 45 rfl 40 i0 _ 3 32 Try.underlying45 hi0 hz0 hz1 hz2 rfl (by decide) w.heap.size 0 0 [] (by simp [Act.eval, Act.put]) SA.out ⟨g, 0, none⟩ s.ps.length lc (pkCells s.ps) (by simp [Act.eval, Act.put]) S1.out (S0.out _ ((Below.heap_alloc (w.alloc _) _ g (by simp; have := HGW.out; omega)).trans (Below.heap_alloc w _ g HGW.out))) S4.out (by simp only [maxLen]; omega) (by omega) s.ps.length (by omega) ?_; intro g5 cap5 w5 hown5 hbes5 hat5
         have hk5 : Hid (∀ k, k < w.heap.size → w5.heap[k]? = w.heap[k]?) := fun k hk => (hbes5.2 k (show k < ((w.alloc _).alloc _).heap.size by simp; omega) (by omega)).trans ((Below.heap_alloc (w.alloc _) _ k (by simp; omega)).trans (Below.heap_alloc w _ k hk))
         have hz5 : Hid (w.heap.size + 1 ≤ w5.heap.size) := by
           have h0 : ((w.alloc (.cells #[] 40)).alloc (.cells #[.int .i64 p.src, .int .i64 p.dst, .string p.txt] 40)).heap.size ≤ w5.heap.size := hbes5.1.2.2.2
           simp at h0; unfold Hid; omega
         have hg5 : Hid (w.heap.size ≤ g5) := by
           rcases hat5 with h0 | h0
           · unfold Hid; omega
           · have h1 : g5 = ((w.alloc (.cells #[] 40)).alloc (.cells #[.int .i64 p.src, .int .i64 p.dst, .string p.txt] 40)).heap.size := h0
             simp at h1; unfold Hid; omega
         have ho5 : Hid (w5.os = w.os ∧ w5.tape = w.tape ∧ w5.output = w.output) := ⟨hbes5.1.1, hbes5.1.2.1, hbes5.1.2.2.1⟩
         obtain ⟨a0, _, a1, a2, a3⟩ := SOF.out w5 hk5.out
         have hP5 : Hid (∀ j u, p.cells[j]? = some u → w5.cell? ((⟨w.heap.size + 1, 0, none⟩ : Addr).add j) = some u) := World.news_of_block (w := w5) (B := w.heap.size + 1) (t := 40) (fr := (0, 0)) (cs := #[.int .i64 p.src, .int .i64 p.dst, .string p.txt]) ((hbes5.2 (w.heap.size + 1) (show w.heap.size + 1 < ((w.alloc (.cells #[] 40)).alloc (.cells #[.int .i64 p.src, .int .i64 p.dst, .string p.txt] 40)).heap.size by simp) (by omega)).trans BA.out))
      | (refine step_append_any rfl (.tmp 18) (.tmp 22) 45 rfl 40 i0 _ 3 32 Try.underlying45 hi0 hz0 hz1 hz2 rfl (by decide) (w.heap.size + 1) 0 0 [] (by simp [Act.eval, Act.put]) SB.out ⟨g, 0, none⟩ s.ps.length lc (pkCells s.ps) (by simp [Act.eval, Act.put]) S1.out (S0.out _ ((Below.heap_alloc (w.alloc _) _ g (by simp; have := HGW.out; omega)).trans (Below.heap_alloc w _ g HGW.out))) S4.out (by simp only [maxLen]; omega) (by omega) s.ps.length (by omega) ?_; intro g5 cap5 w5 hown5 hbes5 hat5
         have hk5 : Hid (∀ k, k < w.heap.size → w5.heap[k]? = w.heap[k]?) := fun k hk => (hbes5.2 k (show k < ((w.alloc _).alloc _).heap.size by simp; omega) (by omega)).trans ((Below.heap_alloc (w.alloc _) _ k (by simp; omega)).trans (Below.heap_alloc w _ k hk))
         have hz5 : Hid (w.heap.size + 1 ≤ w5.heap.size) := by
           have h0 : ((w.alloc (.cells #[.int .i64 p.src, .int .i64 p.dst, .string p.txt] 40)).alloc (.cells #[] 40)).heap.size ≤ w5.heap.size := hbes5.1.2.2.2
           simp at h0; unfold Hid; omega
         have hg5 : Hid (w.heap.size ≤ g5) := by
           rcases hat5 with h0 | h0
           · unfold Hid; omega
           · have h1 : g5 = ((w.alloc (.cells #[.int .i64 p.src, .int .i64 p.dst, .string p.txt] 40)).alloc (.cells #[] 40)).heap.size := h0
             simp at h1; unfold Hid; omega
         have ho5 : Hid (w5.os = w.os ∧ w5.tape = w.tape ∧ w5.output = w.output) := ⟨hbes5.1.1, hbes5.1.2.1, hbes5.1.2.2.1⟩
         obtain ⟨a0, _, a1, a2, a3⟩ := SOF.out w5 hk5.out
         have hP5 : Hid (∀ j u, p.cells[j]? = some u → w5.cell? ((⟨w.heap.size, 0, none⟩ : Addr).add j) = some u) := World.news_of_block (w := w5) (B := w.heap.size) (t := 40) (fr := (0, 0)) (cs := #[.int .i64 p.src, .int .i64 p.dst, .string p.txt]) ((hbes5.2 w.heap.size (show w.heap.size < ((w.alloc (.cells #[.int .i64 p.src, .int .i64 p.dst, .string p.txt] 40)).alloc (.cells #[] 40)).heap.size by simp; omega) (by omega)).trans BB.out))
      | (refine step_append_any rfl (.tmp 18) (.tmp 22) 45 rfl 40 i0 _ 3 32 Try.underlying45 hi0 hz0 hz1 hz2 rfl (by decide) w.heap.size 0 0 [] (by simp [Act.eval, Act.put]) SC.out ⟨g, 0, none⟩ s.ps.length lc (pkCells s.ps) (by simp [Act.eval, Act.put]) S1.out (S0.out _ (Below.heap_alloc w _ g HGW.out)) S4.out (by simp only [maxLen]; omega) (by omega) s.ps.length (by omega) ?_; intro g5 cap5 w5 hown5 hbes5 hat5
         have hk5 : Hid (∀ k, k < w.heap.size → w5.heap[k]? = w.heap[k]?) := fun k hk => (hbes5.2 k (show k < (w.alloc _).heap.size by simp; omega) (by omega)).trans (Below.heap_alloc w _ k hk)
         have hz5 : Hid (w.heap.size + 1 ≤ w5.heap.size) := by
           have h0 : (w.alloc (.cells #[] 40)).heap.size ≤ w5.heap.size := hbes5.1.2.2.2
           simp at h0; unfold Hid; omega
         have hg5 : Hid (w.heap.size ≤ g5) := by
           rcases hat5 with h0 | h0
           · unfold Hid; omega
           · have h1 : g5 = (w.alloc (.cells #[] 40)).heap.size := h0
             simp at h1; unfold Hid; omega
         have ho5 : Hid (w5.os = w.os ∧ w5.tape = w.tape ∧ w5.output = w.output) := ⟨hbes5.1.1, hbes5.1.2.1, hbes5.1.2.2.1⟩
         obtain ⟨a0, _, a1, a2, a3⟩ := SOF.out w5 hk5.out)
      | (refine step_append_any rfl (.tmp 23) (.tmp 31) 45 rfl 40 i0 _ 3 32 Try.underlying45 hi0 hz0 hz1 hz2 rfl (by decide) g5 s.ps.length cap5 ([] ++ pkCells s.ps) (by simp [Act.eval, Act.put]) hown5 _ 1 1 p.cells (by simp [Act.eval, Act.put]) rfl hP5.out (one_cells p) (by simp only [maxLen]; omega) (by omega) (s.ps.length + 1) (by omega) ?_; intro g6 cap6 w6 hown6 hbes6 hat6
         have hk6 : Hid (∀ k, k < w.heap.size → w6.heap[k]? = w.heap[k]?) := fun k hk => (hbes6.2 k (by have := hz5.out; omega) (by have := hg5.out; omega)).trans (hk5.out k hk)
         have hz6 : Hid (w5.heap.size ≤ w6.heap.size) := hbes6.1.2.2.2
         have hg6 : Hid (w.heap.size ≤ g6) := by
           have := hz5.out
           have := hg5.out
           rcases hat6 with h0 | h0 <;> unfold Hid <;> omega
         have ho6 : Hid (w6.os = w.os ∧ w6.tape = w.tape ∧ w6.output = w.output) := ⟨hbes6.1.1.trans ho5.out.1, hbes6.1.2.1.trans ho5.out.2.1, hbes6.1.2.2.1.trans ho5.out.2.2⟩
         obtain ⟨b0, bf, _, _, _⟩ := SOF.out w6 hk6.out)
      | (refine step_append_any rfl (.tmp 23) (.tmp 31) 45 rfl 40 i0 _ 3 32 Try.underlying45 hi0 hz0 hz1 hz2 rfl (by decide) g5 s.ps.length cap5 ([] ++ pkCells s.ps) (by simp [Act.eval, Act.put]) (World.ownsRow.alloc hown5 _) ⟨w5.heap.size, 0, none⟩ 1 1 p.cells (by simp [Act.eval, Act.put]) rfl (new_cells w5 p (0, 0)) (one_cells p) (by simp only [maxLen]; omega) (by omega) (s.ps.length + 1) (by omega) ?_; intro g6 cap6 w6 hown6 hbes6 hat6
         have hk6 : Hid (∀ k, k < w.heap.size → w6.heap[k]? = w.heap[k]?) := fun k hk => ((hbes6.2 k (by have := hz5.out; simp; omega) (by have := hg5.out; omega)).trans (Below.heap_alloc w5 _ k (by have := hz5.out; omega))).trans (hk5.out k hk)
         have hz6 : Hid (w5.heap.size ≤ w6.heap.size) := by
           have h0 := hbes6.1.2.2.2
           simp at h0; unfold Hid; omega
         have hg6 : Hid (w.heap.size ≤ g6) := by
           have := hz5.out
           have := hg5.out
           rcases hat6 with h0 | h0
           · unfold Hid; omega
           · simp at h0; unfold Hid; omega
         have ho6 : Hid (w6.os = w.os ∧ w6.tape = w.tape ∧ w6.output = w.output) := ⟨hbes6.1.1.trans ho5.out.1, hbes6.1.2.1.trans ho5.out.2.1, hbes6.1.2.2.1.trans ho5.out.2.2⟩
         obtain ⟨b0, bf, _, _, _⟩ := SOF.out w6 hk6.out))
  all_goals
    have hrw := ref_rowed (w := w) (w3 := w6) (s := s) (ps' := s.ps ++ [p]) (n' := s.ps.length + 1) HR.out HND.out HW.out HN.out.valid (by simp) (by rw [pkCells_put]; simpa using hown6)
      ⟨ho6.out.1, ho6.out.2.1, ho6.out.2.2, by have := hz5.out; have := hz6.out; omega, fun q hq _ => hk6.out q hq, fun q hq => by simp at hq; subst hq; exact .inr hg6.out⟩ (by simp; omega) hws hs hc
    have HRW := Lib.hid hrw
    clear hrw hown6 hbes6 hat6 hown5 hbes5 hat5 a0 a1 a2 a3 b0 bf c0 q0 q1 q2 x0 x1 x2 x3 y0 z0 v0
    go_wp2_with fail
    go_ret
    exact ⟨_, rfl, HRW.out.1, HRW.out.2⟩

end Go.Proofs.Ytjeiakfdjbnkaaa

/-
  The walks of the law's does, the ways that draw no order with two calls.
-/
import Derived.Test.YtjeiakfdjbnkaaaDoes
import Derived.Deep.AppendLies
namespace Go.Proofs.Ytjeiakfdjbnkaaa
open Go.RowKit
set_option linter.unusedVariables false
attribute [local go_sem ↓] Go.wp_at_zero Go.wp_at_succ

/-- The two takes: the same. -/
theorem took_like {s s' : NS} {r r' : RS} {i : Int} {p q : Pk} {b c : Bool} (hl : Like s r)
    (h1 : (b = false ∧ p = Pk.zero ∧ s' = s ∧ (i < 0 ∨ (s.ps.length : Int) ≤ i)) ∨
       (∃ j : Nat, i = j ∧ j < s.ps.length ∧ ((b = false ∧ p = Pk.zero ∧ hasWay s.cut (btw (s.ps.getD j Pk.zero).src (s.ps.getD j Pk.zero).dst) = true ∧ s' = ⟨s.ps.eraseIdx j, s.cut, s.sent, s.came⟩) ∨
         (b = true ∧ p = s.ps.getD j Pk.zero ∧ hasWay s.cut (btw (s.ps.getD j Pk.zero).src (s.ps.getD j Pk.zero).dst) = false ∧ s' = ⟨s.ps.eraseIdx j, s.cut, s.sent, s.came + 1⟩))))
    (h2 : (c = false ∧ q = Pk.zero ∧ r' = r ∧ (i < 0 ∨ (r.ps.length : Int) ≤ i)) ∨
       (∃ j : Nat, i = j ∧ j < r.ps.length ∧ ((c = false ∧ q = Pk.zero ∧ refCut r.ws (r.ps.getD j Pk.zero).src (r.ps.getD j Pk.zero).dst = true ∧ r' = ⟨r.ps.eraseIdx j, r.ws, r.sent, r.came⟩) ∨
         (c = true ∧ q = r.ps.getD j Pk.zero ∧ refCut r.ws (r.ps.getD j Pk.zero).src (r.ps.getD j Pk.zero).dst = false ∧ r' = ⟨r.ps.eraseIdx j, r.ws, r.sent, r.came + 1⟩)))) :
    p = q ∧ b = c ∧ Like s' r' ∧ s'.sent ≤ s.sent + 1 ∧ s'.came ≤ s.came + 1 ∧ r'.ws.length ≤ r.ws.length + 1 := by
  obtain ⟨e1, e2, e3, e4, e5⟩ := hl
  have hlen : r.ps.length = s.ps.length := by rw [e1]
  rcases h1 with ⟨rfl, rfl, rfl, h1⟩ | ⟨j, rfl, hj, h1⟩ <;> rcases h2 with ⟨rfl, rfl, rfl, h2⟩ | ⟨j', h3, hj', h2⟩
  · exact ⟨rfl, rfl, ⟨e1, e2, e3, e4, e5⟩, by omega, by omega, by omega⟩
  · omega
  · omega
  · obtain rfl : j = j' := by omega
    rw [e1, e4] at h2
    rcases h1 with ⟨rfl, rfl, h1, rfl⟩ | ⟨rfl, rfl, h1, rfl⟩ <;> rcases h2 with ⟨rfl, rfl, h2, rfl⟩ | ⟨rfl, rfl, h2, rfl⟩
    · exact ⟨rfl, rfl, ⟨rfl, e2, e3, e4, e5⟩, by simp, by simp, by simp⟩
    · rw [h1] at h2; cases h2
    · rw [h1] at h2; cases h2
    · exact ⟨rfl, rfl, ⟨rfl, e2, by simp [e3], e4, e5⟩, by simp, by simp, by simp⟩

set_option maxRecDepth 100000 in
set_option maxHeartbeats 1000000 in
theorem does_take (fn fr : List Nat) (B R : Nat) (s : NS) (r : RS) (w : World) (x y : Int) (t : ByteArray) (h : Side w fn fr B R s r) (hl : Like s r) (hc : s.came < 5000) :
    Calls Try.prog 32 #[.pointer (some ⟨B, 0, none⟩), .pointer (some ⟨R, 0, none⟩), .agg #[.int .i64 1, .int .i64 x, .int .i64 y, .string t]] w fun e w' => e = .returned (.bool true) ∧ Both fn fr B R s r w w' := by
  have hd := DoAt.start ⟨1, x, y, t⟩ h
  have hrc : r.came < 5000 := by rw [hl.2.2.1]; exact hc
  have HL := Lib.hid hl
  have HD := Lib.hid hd
  obtain ⟨c0, c1, c2, c3⟩ := hd.cells
  clear h hl hd
  go_enter Try.func32, Try.ntmps32
  go_wp2_with fail
  refine (take_any fn B s _ x HD.out.side.1 hc).mono ?_
  rintro e w2 ⟨f2, s2, hn2, hf2, p, b, rfl, ht⟩
  have h2 := HD.out.net hn2 hf2
  have h2' := h2.below ((Below.refl _ w2).alloc (Nat.le_refl _) (.cells #[.int .i64 p.src, .int .i64 p.dst, .string p.txt] 40))
  have hp2 : (w2.alloc (.cells #[.int .i64 p.src, .int .i64 p.dst, .string p.txt] 40)).heap[w2.heap.size]? = some (.cells #[.int .i64 p.src, .int .i64 p.dst, .string p.txt] 40 (0, 0)) := heap_alloc_new w2 _
  have HP2 := Lib.hid hp2
  have HF2 : Hid (w2.heap.size ∉ fr) := fun hm => by have := h2.side.2.1.valid _ hm; omega
  have H2 := Lib.hid h2'
  have HT := Lib.hid ht
  obtain ⟨d0, d1, d2, d3⟩ := h2.cells
  obtain ⟨k0, k1, k2, k3⟩ := h2'.cells
  clear hn2 hf2 h2 h2' hp2 ht c0 c1 c2 c3
  go_wp2_with fail
  refine (reftake_any fr R r _ x H2.out.side.2.1 hrc).mono ?_
  rintro e w3 ⟨f3, r3, hn3, hf3, q, c, rfl, hd3⟩
  have hlk := took_like HL.out HT.out hd3
  obtain ⟨rfl, rfl, hlk⟩ := hlk
  have h3 := H2.out.ref hn3 hf3
  have hp3 := (hf3.block _ (by simp) HF2.out).trans HP2.out
  have hlt := (Array.getElem?_eq_some_iff.1 hp3).1
  have h3' := h3.below ((Below.refl _ w3).alloc (Nat.le_refl _) (.cells #[.int .i64 p.src, .int .i64 p.dst, .string p.txt] 40))
  have hq3 : (w3.alloc (.cells #[.int .i64 p.src, .int .i64 p.dst, .string p.txt] 40)).heap[w3.heap.size]? = some (.cells #[.int .i64 p.src, .int .i64 p.dst, .string p.txt] 40 (0, 0)) := heap_alloc_new w3 _
  have hp3' := (Below.heap_alloc w3 (.cells #[.int .i64 p.src, .int .i64 p.dst, .string p.txt] 40) _ hlt).trans hp3
  obtain ⟨b0, b1, b2, b3⟩ := box3 hq3
  obtain ⟨a0, a1, a2, a3⟩ := box3 hp3'
  have hsame : p.same p = true := (Pk.same_iff p p).2 rfl
  have HB := Lib.hid (h3'.both hlk)
  clear hn3 hf3 hd3 h3 h3' hlk hp3 hq3 hp3' d0 d1 d2 d3 k0 k1 k2 k3
  cases b
  all_goals
    go_wp2_with fail
    go_ret
    exact ⟨rfl, HB.out⟩

set_option maxRecDepth 100000 in
set_option maxHeartbeats 1000000 in
theorem does_join (fn fr : List Nat) (B R : Nat) (s : NS) (r : RS) (w : World) (x y : Int) (t : ByteArray) (h : Side w fn fr B R s r) (hl : Like s r) (hw : r.ws.length < 5000) :
    Calls Try.prog 32 #[.pointer (some ⟨B, 0, none⟩), .pointer (some ⟨R, 0, none⟩), .agg #[.int .i64 5, .int .i64 x, .int .i64 y, .string t]] w fun e w' => e = .returned (.bool true) ∧ Both fn fr B R s r w w' := by
  have hd := DoAt.start ⟨5, x, y, t⟩ h
  have HL := Lib.hid hl
  have HD := Lib.hid hd
  obtain ⟨c0, c1, c2, c3⟩ := hd.cells
  clear h hl hd
  go_enter Try.func32, Try.ntmps32
  go_wp2_with fail
  refine (join_calls fn B s _ x y HD.out.side.1).mono ?_
  rintro e w2 ⟨f2, rfl, hn2, hf2⟩
  have h2 := HD.out.net hn2 hf2
  have H2 := Lib.hid h2
  obtain ⟨d0, d1, d2, d3⟩ := h2.cells
  clear hn2 hf2 h2 c0 c1 c2 c3
  go_wp2_with fail
  refine (refjoin_calls fr R r _ x y H2.out.side.2.1).mono ?_
  rintro e w3 ⟨f3, rfl, hn3, hf3⟩
  have hlk : Like ⟨s.ps, joinWay s.cut (btw x y), s.sent, s.came⟩ ⟨r.ps, refJoin r.ws x y, r.sent, r.came⟩ := by
    obtain ⟨e1, e2, e3, e4, e5⟩ := HL.out
    exact ⟨e1, e2, e3, e4.join e5 x y, joinWay_nodup e5⟩
  have HB := Lib.hid ((H2.out.ref hn3 hf3).both (s := s) (r := r) ⟨hlk, by simp, by simp, by have := List.length_filter_le (fun q => !meets x y q) r.ws; show (refJoin r.ws x y).length ≤ _; unfold refJoin; omega⟩)
  clear hn3 hf3 hlk d0 d1 d2 d3
  go_wp2_with fail
  go_ret
  exact ⟨rfl, HB.out⟩

/-- The reference's ways are let go. -/
theorem ref_healed {w : World} {fr : List Nat} {R : Nat} {r : RS} (h : RefAt w fr R r) :
    ∃ fr', RefAt (w.setCell ⟨R, 1, none⟩ (.slice none 0 0)) fr' R ⟨r.ps, [], r.sent, r.came⟩ ∧ Fr w (w.setCell ⟨R, 1, none⟩ (.slice none 0 0)) fr fr' := by
  obtain ⟨la, lc, wa, wc, rfl, hnd, hR, hl, hw, hlen, hws, hs, hc⟩ := h
  have k1 := heap_setCell_same w R 1 _ 56 (.slice none 0 0) hR
  have hoth : ∀ k, k ≠ R → (w.setCell ⟨R, 1, none⟩ (.slice none 0 0)).heap[k]? = w.heap[k]? := fun k hk => Below.heap_setCell _ _ _ _ hk
  have hnd' := hnd
  simp only [List.nodup_cons, List.nodup_append, List.mem_append, not_or] at hnd'
  obtain ⟨⟨hRl, hRw⟩, hnl, hnw, hlw⟩ := hnd'
  refine ⟨R :: (blk la ++ blk none), ⟨la, lc, none, 0, rfl, by simp [blk] at hRl hnl ⊢; exact ⟨hRl, hnl⟩, by rw [k1]; rfl, ownsRow_kept hl (fun q hq => hoth q (fun e => hRl (by rw [← e]; exact (ownBlock_blk _ _ _ _).1 hq))), World.ownsRow_nil _ _ _ _, hlen, by simp, hs, hc⟩,
    ⟨rfl, rfl, rfl, by simp [World.setCell], fun k hk hnm => hoth k (fun e => hnm (by simp [e])), fun k hk => .inl ?_⟩⟩
  simp only [List.mem_cons, List.mem_append] at hk ⊢
  rcases hk with hk | hk | hk
  · exact .inl hk
  · exact .inr (.inl hk)
  · simp [blk] at hk

set_option maxRecDepth 100000 in
set_option maxHeartbeats 1000000 in
theorem does_heal (fn fr : List Nat) (B R : Nat) (s : NS) (r : RS) (w : World) (x y : Int) (t : ByteArray) (h : Side w fn fr B R s r) (hl : Like s r) (hw : r.ws.length < 5000) :
    Calls Try.prog 32 #[.pointer (some ⟨B, 0, none⟩), .pointer (some ⟨R, 0, none⟩), .agg #[.int .i64 6, .int .i64 x, .int .i64 y, .string t]] w fun e w' => e = .returned (.bool true) ∧ Both fn fr B R s r w w' := by
  have hd := DoAt.start ⟨6, x, y, t⟩ h
  have HL := Lib.hid hl
  have HD := Lib.hid hd
  obtain ⟨c0, c1, c2, c3⟩ := hd.cells
  clear h hl hd
  go_enter Try.func32, Try.ntmps32
  go_wp2_with fail
  refine (heal_calls fn B s _ HD.out.side.1).mono ?_
  rintro e w2 ⟨f2, rfl, hn2, hf2⟩
  have h2 := HD.out.net hn2 hf2
  obtain ⟨f3, hn3, hf3⟩ := ref_healed h2.side.2.1
  have hlk : Like ⟨s.ps, [], s.sent, s.came⟩ ⟨r.ps, [], r.sent, r.came⟩ := by
    obtain ⟨e1, e2, e3, e4, e5⟩ := HL.out
    exact ⟨e1, e2, e3, Same.none, List.nodup_nil⟩
  have HB := Lib.hid ((h2.ref hn3 hf3).both (s := s) (r := r) ⟨hlk, by simp, by simp, by simp⟩)
  obtain ⟨_, _, _, _, _, _, hR, _⟩ := h2.side.2.1
  obtain ⟨k0, k1, k2, k3, kf⟩ := refCell hR
  clear hn2 hf2 h2 c0 c1 c2 c3 hn3 hf3 hlk hR
  go_wp2_with fail
  go_ret
  exact ⟨rfl, HB.out⟩

set_option maxRecDepth 100000 in
set_option maxHeartbeats 1000000 in
theorem does_other (fn fr : List Nat) (B R : Nat) (s : NS) (r : RS) (w : World) (k : Int) (h0 : k ≠ 0) (h1 : k ≠ 1) (h2 : k ≠ 2) (h3 : k ≠ 3) (h4 : k ≠ 4) (h5 : k ≠ 5) (h6 : k ≠ 6) (h7 : k ≠ 7) (x y : Int) (t : ByteArray) (h : Side w fn fr B R s r) (hl : Like s r) (hw : r.ws.length < 5000) :
    Calls Try.prog 32 #[.pointer (some ⟨B, 0, none⟩), .pointer (some ⟨R, 0, none⟩), .agg #[.int .i64 k, .int .i64 x, .int .i64 y, .string t]] w fun e w' => e = .returned (.bool true) ∧ Both fn fr B R s r w w' := by
  have hd := DoAt.start ⟨k, x, y, t⟩ h
  have HB := Lib.hid (hd.both (s := s) (r := r) ⟨hl, by omega, by omega, by omega⟩)
  obtain ⟨c0, c1, c2, c3⟩ := hd.cells
  clear h hl hd
  go_enter Try.func32, Try.ntmps32
  go_wp2_with fail
  go_ret
  exact ⟨rfl, HB.out⟩

end Go.Proofs.Ytjeiakfdjbnkaaa

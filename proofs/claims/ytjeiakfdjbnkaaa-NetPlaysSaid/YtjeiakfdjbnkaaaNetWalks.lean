/-
  A network's footprint in memory, what a call may touch, and the contracts of the network's small methods.
-/
import Derived.Test.YtjeiakfdjbnkaaaNetAt
import Derived.WalkKit
import Derived.WalkSpells
import Derived.WalkLawsBesides
import Derived.Below
import Derived.Lib.Hide
import Derived.Deep.AppendLies
import Derived.Outline
import Derived.Deep.RegionWith
namespace Go.Proofs.Ytjeiakfdjbnkaaa
open Go.RowKit
set_option linter.unusedVariables false

theorem info40 : (Try.prog.info? 40).map (fun i => (i.zero, i.size, i.bytes)) = some (some (.agg #[.int .i64 0, .int .i64 0, .string ByteArray.empty]), 3, 32) := by kernel_rfl

/-- Behind a packet that was put. -/
def NS.put (s : NS) (p : Pk) : NS := { s with ps := s.ps ++ [p] }

theorem pkCells_put (ps : List Pk) (p : Pk) : pkCells (ps ++ [p]) = pkCells ps ++ p.cells := by simp [pkCells]

/-- What a method of a network comes to: it returns r, and the network is s'. -/
def Did (r : Value) (w : World) (fp : List Nat) (B : Nat) (s' : NS) (e : Ending) (w' : World) : Prop := ∃ fq, e = .returned r ∧ NetAt w' fq B s' ∧ Fr w w' fp fq

/-- The world behind an append to a network's row: the network with the new row, once the store is done. -/
theorem net_appended {w w3 : World} {B mb g cap cap' n' : Nat} {a : Option Addr} {s : NS} {o : Obj} {ps' : List Pk}
    (hB : w.heap[B]? = some (.cells (netCells a s.ps.length cap mb s) 65 (0, 0))) (hnd : (B :: mb :: blk a).Nodup) (hmap : WayMap w mb s.cut) (hn' : n' = ps'.length)
    (hown : w3.ownsRow 0 40 3 (.slice (some ⟨g, 0, none⟩) n' cap') n' (pkCells ps'))
    (hgrow : (w.alloc o).grownBy w3 (Value.slice a s.ps.length cap).ownBlock) (hat : (Value.slice a s.ps.length cap).ownBlock = some g ∨ g = w.heap.size + 1)
    (hval : ∀ k ∈ B :: mb :: blk a, k < w.heap.size) (hcut : s.cut.Nodup) (hlen : ps'.length ≤ 256) (hs : s.sent ≤ 5000) (hc : s.came ≤ 5000) :
    NetAt (w3.setCell ⟨B, 0, none⟩ (.slice (some ⟨g, 0, none⟩) n' cap')) [B, mb, g] B ⟨ps', s.cut, s.sent, s.came⟩ ∧
    Fr w (w3.setCell ⟨B, 0, none⟩ (.slice (some ⟨g, 0, none⟩) n' cap')) (B :: mb :: blk a) [B, mb, g] := by
  subst hn'
  have hBl := hval B (by simp)
  have hml := hval mb (by simp)
  have hrow : ∀ k, k < w.heap.size → k ∉ blk a → w3.heap[k]? = w.heap[k]? := fun k hk hn =>
    (hgrow.block k (by simp; omega) (fun e => hn ((ownBlock_blk a _ _ k).1 e.symm))).trans (Below.heap_alloc w o k hk)
  simp only [List.nodup_cons, List.mem_cons, not_or] at hnd
  obtain ⟨⟨hBm, hBa⟩, hma, hna⟩ := hnd
  have hgB : g ≠ B := by
    rcases hat with h | h
    · intro e; subst e; exact hBa ((ownBlock_blk _ _ _ _).1 h)
    · omega
  have hgm : g ≠ mb := by
    rcases hat with h | h
    · intro e; subst e; exact hma ((ownBlock_blk _ _ _ _).1 h)
    · omega
  have hB3 : w3.heap[B]? = some (.cells (netCells a s.ps.length cap mb s) 65 (0, 0)) := (hrow B hBl hBa).trans hB
  have k1 := heap_setCell_same w3 B 0 _ 65 (.slice (some ⟨g, 0, none⟩) ps'.length cap') hB3
  have hoth : ∀ k, k ≠ B → (w3.setCell ⟨B, 0, none⟩ (.slice (some ⟨g, 0, none⟩) ps'.length cap')).heap[k]? = w3.heap[k]? := fun k hk => Below.heap_setCell _ _ _ _ hk
  refine ⟨⟨some ⟨g, 0, none⟩, cap', mb, rfl, ?_, ?_, ?_, ?_, hcut, hlen, hs, hc⟩, ?_⟩
  · simp only [List.nodup_cons, List.mem_cons, List.not_mem_nil, or_false, not_or, not_false_iff, and_true, List.nodup_nil]
    exact ⟨⟨hBm, fun e => hgB e.symm⟩, fun e => hgm e.symm⟩
  · rw [k1]; rfl
  · exact ownsRow_kept hown (fun q hq => by cases hq; exact hoth g hgB)
  · obtain ⟨es, c, hm, hk, hes⟩ := hmap
    exact ⟨es, c, by rw [hoth mb (fun e => hBm e.symm), hrow mb hml hma]; exact hm, hk, hes⟩
  · refine ⟨hgrow.os, hgrow.tape, hgrow.output, ?_, fun k hk hn => ?_, fun k hk => ?_⟩
    · have := hgrow.size; simp at this ⊢; omega
    · simp only [List.mem_cons, not_or] at hn
      rw [hoth k hn.1]; exact hrow k hk hn.2.2
    · simp only [List.mem_cons, List.not_mem_nil, or_false] at hk
      rcases hk with rfl | rfl | rfl
      · exact .inl (by simp)
      · exact .inl (by simp)
      · rcases hat with h | h
        · exact .inl (by simp [(ownBlock_blk _ _ _ _).1 h])
        · exact .inr (by omega)

theorem net_block {w w3 : World} {B mb n cap : Nat} {a : Option Addr} {cs : Array Value} {t : TypeId} {o : Obj} (hB : w.heap[B]? = some (.cells cs t (0, 0))) (hnd : (B :: mb :: blk a).Nodup)
    (hgrow : (w.alloc o).grownBy w3 (Value.slice a n cap).ownBlock) (hlt : B < w.heap.size) : w3.heap[B]? = some (.cells cs t (0, 0)) := by
  simp only [List.nodup_cons, List.mem_cons, not_or] at hnd
  rw [hgrow.block B (by simp; omega) (fun e => hnd.1.2 ((ownBlock_blk a _ _ _).1 e.symm))]
  exact (Below.heap_alloc w o B hlt).trans hB

/-- A count is written. -/
theorem net_sent {w : World} {fp : List Nat} {B : Nat} {s : NS} (h : NetAt w fp B s) (n : Nat) (hn : n ≤ 5000) :
    NetAt (w.setCell ⟨B, 2, none⟩ (.int .i64 n)) fp B { s with sent := n } ∧ Fr w (w.setCell ⟨B, 2, none⟩ (.int .i64 n)) fp fp := by
  obtain ⟨a, cap, mb, rfl, hnd, hB, hown, ⟨es, c, hm, hk, hes⟩, hcut, hlen, hs, hc⟩ := h
  have k1 := heap_setCell_same w B 2 _ 65 (.int .i64 n) hB
  have hoth : ∀ k, k ≠ B → (w.setCell ⟨B, 2, none⟩ (.int .i64 n)).heap[k]? = w.heap[k]? := fun k hk => Below.heap_setCell _ _ _ _ hk
  have hnd' := hnd
  simp only [List.nodup_cons, List.mem_cons, not_or] at hnd'
  obtain ⟨⟨hBm, hBa⟩, hma, hna⟩ := hnd'
  refine ⟨⟨a, cap, mb, rfl, hnd, by rw [k1]; rfl, ownsRow_kept hown (fun q hq => hoth q (fun e => hBa (by rw [← e]; exact (ownBlock_blk _ _ _ _).1 hq))), ⟨es, c, by rw [hoth mb (fun e => hBm e.symm)]; exact hm, hk, hes⟩, hcut, hlen, hn, hc⟩,
    ⟨rfl, rfl, rfl, by simp [World.setCell], fun k hk hnm => hoth k (fun e => hnm (by simp [e])), fun k hk => .inl hk⟩⟩

theorem net_came {w : World} {fp : List Nat} {B : Nat} {s : NS} (h : NetAt w fp B s) (n : Nat) (hn : n ≤ 5000) :
    NetAt (w.setCell ⟨B, 3, none⟩ (.int .i64 n)) fp B { s with came := n } ∧ Fr w (w.setCell ⟨B, 3, none⟩ (.int .i64 n)) fp fp := by
  obtain ⟨a, cap, mb, rfl, hnd, hB, hown, ⟨es, c, hm, hk, hes⟩, hcut, hlen, hs, hc⟩ := h
  have k1 := heap_setCell_same w B 3 _ 65 (.int .i64 n) hB
  have hoth : ∀ k, k ≠ B → (w.setCell ⟨B, 3, none⟩ (.int .i64 n)).heap[k]? = w.heap[k]? := fun k hk => Below.heap_setCell _ _ _ _ hk
  have hnd' := hnd
  simp only [List.nodup_cons, List.mem_cons, not_or] at hnd'
  obtain ⟨⟨hBm, hBa⟩, hma, hna⟩ := hnd'
  refine ⟨⟨a, cap, mb, rfl, hnd, by rw [k1]; rfl, ownsRow_kept hown (fun q hq => hoth q (fun e => hBa (by rw [← e]; exact (ownBlock_blk _ _ _ _).1 hq))), ⟨es, c, by rw [hoth mb (fun e => hBm e.symm)]; exact hm, hk, hes⟩, hcut, hlen, hs, hn⟩,
    ⟨rfl, rfl, rfl, by simp [World.setCell], fun k hk hnm => hoth k (fun e => hnm (by simp [e])), fun k hk => .inl hk⟩⟩

theorem one_cells (p : Pk) : ∀ u ∈ p.cells, u.oneCell' = true := by
  intro u hu
  simp only [Pk.cells, List.mem_cons, List.not_mem_nil, or_false] at hu
  rcases hu with rfl | rfl | rfl <;> rfl

theorem new_cells (w : World) (p : Pk) (fr : Nat × Nat) : ∀ j u, p.cells[j]? = some u → (w.alloc (.cells #[.int .i64 p.src, .int .i64 p.dst, .string p.txt] 40 fr)).cell? ((⟨w.heap.size, 0, none⟩ : Addr).add j) = some u :=
  World.news_of_block (w := w.alloc (.cells #[.int .i64 p.src, .int .i64 p.dst, .string p.txt] 40 fr)) (heap_alloc_new w _)

set_option maxRecDepth 100000 in
set_option maxHeartbeats 400000 in
theorem send_calls (fp : List Nat) (B : Nat) (s : NS) (w : World) (p : Pk) (hn : NetAt w fp B s) (hs : s.sent < 5000) (hroom : s.ps.length < 256) :
    Calls Try.prog 21 #[.pointer (some ⟨B, 0, none⟩), .int .i64 p.src, .int .i64 p.dst, .string p.txt] w (Did (.bool true) w fp B ⟨s.ps ++ [p], s.cut, s.sent + 1, s.came⟩) := by
  have hval := hn.valid
  obtain ⟨a, cap, mb, rfl, hnd, hB, hown, hmap, hcut, hlen, hsent, hcame⟩ := hn
  obtain ⟨c0, c1, c2, c3, cf⟩ := netCell hB
  obtain ⟨i0, hi, hz0, hz1, hz2⟩ := info_parts info40
  have HB := Lib.hid hB
  have HM := Lib.hid hmap
  have HND := Lib.hid hnd
  have HV := Lib.hid hval
  have hlt := (Array.getElem?_eq_some_iff.1 hB).1
  clear hB hmap hnd hval
  go_enter Try.func21, Try.ntmps21
  go_wp2_with (at_builtin; go_loud (refine wpList_append_lies _ rfl (.tmp 23) (.tmp 28) 45 rfl 0 40 i0 _ 3 32 Try.underlying45 hi hz0 hz1 hz2 rfl (by decide) _ s.ps.length _ rfl (hown.alloc _) ⟨w.heap.size, 0, none⟩ 1 1 p.cells rfl rfl ?c2 ?c3 ?c4 ?c5 ?c6 ?c7 _ rfl ?c8))
  case c2 => exact new_cells w p (0, 0)
  case c3 => exact one_cells p
  case c4 => omega
  case c5 => simp only [maxLen]; omega
  case c6 => omega
  case c7 => omega
  case c8 =>
    intro g cap' w3 hown' hgrow hat hg3
    have hput := pkCells_put s.ps p
    rw [← hput] at hown'
    have hm3 := net_block HB.out HND.out hgrow hlt
    obtain ⟨d0, d1, d2, d3, df⟩ := netCell hm3
    have HN := Lib.hid (net_appended HB.out HND.out HM.out (by simp) hown' hgrow hat HV.out hcut (by simp; omega) hsent hcame)
    clear c0 c1 c2 c3 cf hown hput hown' hgrow hat hm3 hi hz0 hz1 hz2 i0
    go_wp2_with fail
    go_ret
    have N1 := net_sent HN.out.1 (s.sent + 1) (by omega)
    exact ⟨[B, mb, g], rfl, N1.1, HN.out.2.trans N1.2⟩

set_option maxRecDepth 100000 in
set_option maxHeartbeats 400000 in
theorem send_full (fp : List Nat) (B : Nat) (s : NS) (w : World) (p : Pk) (hn : NetAt w fp B s) (hroom : 256 ≤ s.ps.length) :
    Calls Try.prog 21 #[.pointer (some ⟨B, 0, none⟩), .int .i64 p.src, .int .i64 p.dst, .string p.txt] w fun e w' => e = .returned (.bool false) ∧ w = w' := by
  obtain ⟨a, cap, mb, rfl, hnd, hB, hown, hmap, hcut, hlen, hsent, hcame⟩ := hn
  obtain ⟨c0, c1, c2, c3, cf⟩ := netCell hB
  clear hB hmap hnd hown
  go_enter Try.func21, Try.ntmps21
  go_wp2_with fail
  go_ret
  exact ⟨rfl, rfl⟩

/-- The packet that isn't there. -/
def Pk.zero : Pk := ⟨0, 0, ByteArray.empty⟩

set_option maxRecDepth 100000 in
set_option maxHeartbeats 400000 in
theorem look_no (fp : List Nat) (B : Nat) (s : NS) (w : World) (i : Int) (hn : NetAt w fp B s) (hi : i < 0 ∨ (s.ps.length : Int) ≤ i) :
    Calls Try.prog 26 #[.pointer (some ⟨B, 0, none⟩), .int .i64 i] w fun e w' => e = .returned (.tuple #[Pk.zero.val, .bool false]) ∧ Below w.heap.size w w' := by
  have HN := Lib.hid (NetAt.below hn ((Below.refl _ w).alloc (Nat.le_refl _) (.cells #[.int .i64 0, .int .i64 0, .string ByteArray.empty] 40)))
  clear hn
  by_cases h0 : i < 0
  · go_enter Try.func26, Try.ntmps26
    go_wp2_with fail
    exact bodyPost_ret (v := .tuple #[Pk.zero.val, .bool false]) (by simp [results, Try.results26, go_sem]; rfl) rfl ⟨rfl, (Below.refl _ _).alloc (Nat.le_refl _) _⟩
  · have h1 : (s.ps.length : Int) ≤ i := by omega
    clear hi
    go_enter Try.func26, Try.ntmps26
    go_wp2_with fail
    refine (len_calls _ _ _ _ HN.out).mono ?_
    rintro e w' ⟨rfl, rfl⟩
    go_wp2_with fail
    exact bodyPost_ret (v := .tuple #[Pk.zero.val, .bool false]) (by simp [results, Try.results26, go_sem]; rfl) rfl ⟨rfl, (Below.refl _ _).alloc (Nat.le_refl _) _⟩

/-- The three cells of a packet of the network. -/
theorem pk_get (ps : List Pk) (i : Nat) (h : i < ps.length) (k : Nat) (hk : k < 3) : (pkCells ps)[i * 3 + k]? = ((ps.getD i Pk.zero).cells)[k]? := by
  induction ps generalizing i with
  | nil => simp at h
  | cons p ps ih =>
    have e : pkCells (p :: ps) = p.cells ++ pkCells ps := rfl
    have h3 : p.cells.length = 3 := rfl
    rw [e]
    cases i with
    | zero => rw [List.getElem?_append_left (by rw [h3]; omega)]; simp
    | succ i =>
      rw [List.getElem?_append_right (by rw [h3]; omega), h3, show (i + 1) * 3 + k - 3 = i * 3 + k by omega, ih i (by simpa using h)]
      rfl

theorem pk_cells {w : World} {g cap n : Nat} {ps : List Pk} (hn : n = ps.length) (h : w.ownsRow 0 40 3 (.slice (some ⟨g, 0, none⟩) n cap) n (pkCells ps)) (i : Nat) (hi : i < ps.length) :
    w.cell? ⟨g, i * 3, none⟩ = some (.int .i64 (ps.getD i Pk.zero).src) ∧ w.cell? ⟨g, i * 3 + 1, none⟩ = some (.int .i64 (ps.getD i Pk.zero).dst) ∧ w.cell? ⟨g, i * 3 + 2, none⟩ = some (.string (ps.getD i Pk.zero).txt) := by
  subst hn
  refine ⟨?_, ?_, ?_⟩
  · rw [h.cellAt (i * 3) (by omega)]; exact pk_get ps i hi 0 (by omega)
  · rw [h.cellAt (i * 3 + 1) (by omega)]; exact pk_get ps i hi 1 (by omega)
  · rw [h.cellAt (i * 3 + 2) (by omega)]; exact pk_get ps i hi 2 (by omega)

set_option maxRecDepth 100000 in
set_option maxHeartbeats 400000 in
theorem look_yes (fp : List Nat) (B : Nat) (s : NS) (w : World) (i : Nat) (hn : NetAt w fp B s) (hi : i < s.ps.length) :
    Calls Try.prog 26 #[.pointer (some ⟨B, 0, none⟩), .int .i64 i] w fun e w' => e = .returned (.tuple #[(s.ps.getD i Pk.zero).val, .bool true]) ∧ Below w.heap.size w w' := by
  have hn1 := NetAt.below hn ((Below.refl _ w).alloc (Nat.le_refl _) (.cells #[.int .i64 0, .int .i64 0, .string ByteArray.empty] 40))
  have HN := Lib.hid hn1
  obtain ⟨a, cap, mb, rfl, hnd, hB, hown, hmap, hcut, hlen, hsent, hcame⟩ := hn1
  obtain ⟨c0, c1, c2, c3, cf⟩ := netCell hB
  obtain ⟨g, cap', hv, _, _⟩ := hown.form (by omega)
  cases hv
  have hpk := pk_cells rfl hown i hi
  generalize s.ps.getD i Pk.zero = p at hpk
  obtain ⟨p0, p1, p2⟩ := hpk
  clear hB hmap hnd hn hown
  go_enter Try.func26, Try.ntmps26
  go_wp2_with fail
  refine (len_calls _ _ _ _ HN.out).mono ?_
  rintro e w' ⟨rfl, rfl⟩
  go_wp2_with fail
  exact bodyPost_ret (v := .tuple #[p.val, .bool true]) (by simp [results, Try.results26, go_sem]; rfl) rfl ⟨rfl, (Below.refl _ _).alloc (Nat.le_refl _) _⟩

end Go.Proofs.Ytjeiakfdjbnkaaa

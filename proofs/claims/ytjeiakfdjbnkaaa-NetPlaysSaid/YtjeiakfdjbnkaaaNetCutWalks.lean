/-
  The walks of the network's methods on ways that are cut, and of Take.
-/
import Derived.Test.YtjeiakfdjbnkaaaNetMore
import Derived.Deep.RegionLaw
import Derived.Lib.SlBytesConst
import Derived.WalkKit
import Derived.WalkSpells
import Derived.WalkLawsBesides
import Derived.Below
import Derived.Lib.Hide
import Derived.Deep.AppendLies
import Derived.Outline
import Derived.Deep.RegionWith
namespace Go.Proofs.Ytjeiakfdjbnkaaa
open Go.RowKit
set_option linter.unusedVariables false


theorem cell_blw {w w' : World} (hb : Below w.heap.size w w') {a : Addr} {v : Value} (h : w.cell? a = some v) : w'.cell? a = some v :=
  (hb.cell (World.block_lt_of_cell? w a h)).trans h

/-- Is a way cut? -/
def hasWay (l : List (Int × Int)) (p : Int × Int) : Bool := l.contains p

theorem ret_true {a : Bool} (h : a = true) : Ending.returned (.bool a) = .returned (.bool true) := by rw [h]

theorem WayMap.kept {w w' : World} {r : Nat} {l : List (Int × Int)} (h : WayMap w r l) (hk : w'.heap[r]? = w.heap[r]?) : WayMap w' r l := by
  obtain ⟨es, c, h1, h2, h3⟩ := h
  exact ⟨es, c, by rw [hk]; exact h1, h2, h3⟩

theorem WayMap.lt {w : World} {r : Nat} {l : List (Int × Int)} (h : WayMap w r l) : r < w.heap.size := by
  obtain ⟨es, c, h1, _⟩ := h
  exact (Array.getElem?_eq_some_iff.1 h1).1

theorem WayMap.below {w w' : World} {r : Nat} {l : List (Int × Int)} (h : WayMap w r l) (hb : Below w.heap.size w w') : WayMap w' r l :=
  h.kept (hb.block r h.lt)

/-- The network behind an operation on its map. -/
theorem net_mapped {w w' : World} {B mb cap : Nat} {a : Option Addr} {s : NS} {o : Obj} {cut' : List (Int × Int)}
    (hB : w.heap[B]? = some (.cells (netCells a s.ps.length cap mb s) 65 (0, 0))) (hnd : (B :: mb :: blk a).Nodup)
    (hown : w.ownsRow 0 40 3 (.slice a s.ps.length cap) s.ps.length (pkCells s.ps)) (hw : w' = { w with heap := w.heap.setIfInBounds mb o }) (hmap : WayMap w' mb cut')
    (hcut : cut'.Nodup) (hlen : s.ps.length ≤ 256) (hs : s.sent ≤ 5000) (hc : s.came ≤ 5000) :
    NetAt w' (B :: mb :: blk a) B ⟨s.ps, cut', s.sent, s.came⟩ ∧ Fr w w' (B :: mb :: blk a) (B :: mb :: blk a) := by
  have hoth : ∀ k, k ≠ mb → w'.heap[k]? = w.heap[k]? := fun k hk => by
    rw [hw]; show (w.heap.setIfInBounds mb o)[k]? = _
    rw [Array.getElem?_setIfInBounds_ne (fun e => hk e.symm)]
  have hnd' := hnd
  simp only [List.nodup_cons, List.mem_cons, not_or] at hnd'
  obtain ⟨⟨hBm, hBa⟩, hma, hna⟩ := hnd'
  refine ⟨⟨a, cap, mb, rfl, hnd, (hoth B hBm).trans hB, ownsRow_kept hown (fun g hg => hoth g (fun e => hma (by rw [← e]; exact (ownBlock_blk _ _ _ _).1 hg))), hmap, hcut, hlen, hs, hc⟩,
    ⟨by rw [hw], by rw [hw], by rw [hw], by rw [hw]; simp, fun k hk hn => hoth k (fun e => hn (by simp [e])), fun k hk => .inl hk⟩⟩

/-- The same, where the map was written behind new blocks. -/
theorem net_mapped' {w w1 w' : World} {B mb cap : Nat} {a : Option Addr} {s : NS} {cut' : List (Int × Int)}
    (hB : w.heap[B]? = some (.cells (netCells a s.ps.length cap mb s) 65 (0, 0))) (hnd : (B :: mb :: blk a).Nodup)
    (hown : w.ownsRow 0 40 3 (.slice a s.ps.length cap) s.ps.length (pkCells s.ps)) (hval : ∀ k ∈ B :: mb :: blk a, k < w.heap.size) (hb : Below w.heap.size w w1)
    (hw : ∃ o, w' = { w1 with heap := w1.heap.setIfInBounds mb o }) (hmap : WayMap w' mb cut')
    (hcut : cut'.Nodup) (hlen : s.ps.length ≤ 256) (hs : s.sent ≤ 5000) (hc : s.came ≤ 5000) :
    NetAt w' (B :: mb :: blk a) B ⟨s.ps, cut', s.sent, s.came⟩ ∧ Fr w w' (B :: mb :: blk a) (B :: mb :: blk a) := by
  obtain ⟨o, hw⟩ := hw
  have h := net_mapped (w := w1) (o := o) ((hb.block B (hval B (by simp))).trans hB) hnd (ownsRow_kept hown (fun g hg => hb.block g (hval g (by simp [(ownBlock_blk _ _ _ _).1 hg])))) hw hmap hcut hlen hs hc
  exact ⟨h.1, (Fr.of_below hb _).trans h.2⟩

theorem cutWay_nodup {l : List (Int × Int)} {p : Int × Int} (h : l.Nodup) : (cutWay l p).Nodup := by
  unfold cutWay
  split
  · exact h
  · rename_i hc
    rw [List.nodup_append]
    refine ⟨h, by simp, fun a ha b hb => ?_⟩
    simp at hb
    subst hb
    intro e; subst e
    exact hc (by simpa using ha)

theorem joinWay_nodup {l : List (Int × Int)} {p : Int × Int} (h : l.Nodup) : (joinWay l p).Nodup := by
  unfold joinWay
  split
  · exact h
  · exact h.sublist (List.eraseIdx_sublist _ _)

set_option maxRecDepth 100000 in
set_option maxHeartbeats 400000 in
theorem heal_calls (fp : List Nat) (B : Nat) (s : NS) (w : World) (hn : NetAt w fp B s) :
    Calls Try.prog 30 #[.pointer (some ⟨B, 0, none⟩)] w (Did (.tuple #[]) w fp B ⟨s.ps, [], s.sent, s.came⟩) := by
  obtain ⟨a, cap, mb, rfl, hnd, hB, hown, hmap, hcut, hlen, hsent, hcame⟩ := hn
  obtain ⟨c0, c1, c2, c3, cf⟩ := netCell hB
  obtain ⟨w5, hclr, hmap5, o, hw5⟩ := run_clear_way w mb s.cut hmap 0
  have HN := Lib.hid (net_mapped hB hnd hown hw5 hmap5 List.nodup_nil hlen hsent hcame)
  clear hB hnd hown hmap hmap5 hw5
  go_enter Try.func30, Try.ntmps30
  go_wp2_with fail
  go_end0
  exact ⟨_, rfl, HN.out.1, HN.out.2⟩


set_option maxRecDepth 100000 in
set_option maxHeartbeats 400000 in
theorem cut_calls (fp : List Nat) (B : Nat) (s : NS) (w : World) (x y : Int) (hn : NetAt w fp B s) :
    Calls Try.prog 28 #[.pointer (some ⟨B, 0, none⟩), .int .i64 x, .int .i64 y] w (Did (.tuple #[]) w fp B ⟨s.ps, cutWay s.cut (btw x y), s.sent, s.came⟩) := by
  have HV := Lib.hid hn.valid
  obtain ⟨a, cap, mb, rfl, hnd, hB, hown, hmap, hcut, hlen, hsent, hcame⟩ := hn
  obtain ⟨c0, c1, c2, c3, cf⟩ := netCell hB
  have HM := Lib.hid hmap
  have HO := Lib.hid hown
  have HB := Lib.hid hB
  have HND := Lib.hid hnd
  clear hmap hown hB hnd c0 c2 c3 cf
  go_enter Try.func28, Try.ntmps28
  go_wp2_with fail
  go_region_with (go_at_call 38; refine (between_calls _ _ _).mono ?_; rintro e w1 ⟨rfl, hb1⟩; have d1 := cell_blw (w := w.drew) hb1 c1; obtain ⟨w5, hup, hmap5, hw5⟩ := run_update_way w1 mb s.cut (HM.out.below (w := w.drew) hb1) (btw x y); have HB1 := Lib.hid hb1; have HM5 := Lib.hid hmap5; have HW5 := Lib.hid hw5; clear hb1 hmap5 hw5)
  all_goals
    have HN := Lib.hid (net_mapped' HB.out HND.out HO.out HV.out ((Below.refl w.heap.size w).drew.trans HB1.out) HW5.out HM5.out (cutWay_nodup hcut) hlen hsent hcame)
    go_end0
    exact ⟨_, rfl, HN.out.1, HN.out.2⟩

set_option maxRecDepth 100000 in
set_option maxHeartbeats 400000 in
theorem join_calls (fp : List Nat) (B : Nat) (s : NS) (w : World) (x y : Int) (hn : NetAt w fp B s) :
    Calls Try.prog 29 #[.pointer (some ⟨B, 0, none⟩), .int .i64 x, .int .i64 y] w (Did (.tuple #[]) w fp B ⟨s.ps, joinWay s.cut (btw x y), s.sent, s.came⟩) := by
  have HV := Lib.hid hn.valid
  obtain ⟨a, cap, mb, rfl, hnd, hB, hown, hmap, hcut, hlen, hsent, hcame⟩ := hn
  obtain ⟨c0, c1, c2, c3, cf⟩ := netCell hB
  have HM := Lib.hid hmap
  have HO := Lib.hid hown
  have HB := Lib.hid hB
  have HND := Lib.hid hnd
  clear hmap hown hB hnd c0 c2 c3 cf
  go_enter Try.func29, Try.ntmps29
  go_wp2_with fail
  go_region_with (go_at_call 38; refine (between_calls _ _ _).mono ?_; rintro e w1 ⟨rfl, hb1⟩; have d1 := cell_blw (w := w.drew) hb1 c1; obtain ⟨w5, hup, hmap5, hw5⟩ := run_delete_way w1 mb s.cut (HM.out.below (w := w.drew) hb1) (btw x y) 0; have HB1 := Lib.hid hb1; have HM5 := Lib.hid hmap5; have HW5 := Lib.hid hw5; clear hb1 hmap5 hw5)
  all_goals
    have HN := Lib.hid (net_mapped' HB.out HND.out HO.out HV.out ((Below.refl w.heap.size w).drew.trans HB1.out) HW5.out HM5.out (joinWay_nodup hcut) hlen hsent hcame)
    go_end0
    exact ⟨_, rfl, HN.out.1, HN.out.2⟩
end Go.Proofs.Ytjeiakfdjbnkaaa

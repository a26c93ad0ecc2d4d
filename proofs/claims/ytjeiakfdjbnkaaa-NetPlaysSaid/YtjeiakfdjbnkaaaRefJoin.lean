/-
  The walk of the reference's Join.
-/
import Derived.Test.YtjeiakfdjbnkaaaRefWalks
import Derived.Deep.AppendLies
import Derived.WalkKit
import Derived.WalkSpells
import Derived.WalkLawsBesides
import Derived.Below
import Derived.Lib.Hide
import Derived.Outline
import Derived.BigQuiet
import Derived.Deep.RegionWith
namespace Go.Proofs.Ytjeiakfdjbnkaaa
open Go.RowKit
set_option linter.unusedVariables false

theorem info50 : (Try.prog.info? 50).map (fun i => (i.zero, i.size, i.bytes)) = some (some (.agg #[.int .i64 0, .int .i64 0]), 2, 16) := by kernel_rfl

def refJoin (ws : List (Int × Int)) (x y : Int) : List (Int × Int) := ws.filter fun q => !meets x y q

theorem filter_succ (ws : List (Int × Int)) (x y : Int) (k : Nat) (hk : k < ws.length) :
    refJoin (ws.take (k + 1)) x y = if meets x y (ws.getD k (0, 0)) then refJoin (ws.take k) x y else refJoin (ws.take k) x y ++ [ws.getD k (0, 0)] := by
  have e : ws.take (k + 1) = ws.take k ++ [ws.getD k (0, 0)] := by
    rw [List.getD_eq_getElem?_getD, List.getElem?_eq_getElem hk]
    exact (List.take_append_getElem hk).symm
  unfold refJoin
  rw [e, List.filter_append]
  generalize ws.getD k (0, 0) = P
  cases h : meets x y P <;> simp [h]

theorem join_le (ws : List (Int × Int)) (x y : Int) (k : Nat) : (refJoin (ws.take k) x y).length ≤ k :=
  Nat.le_trans (List.length_filter_le _ _) (by rw [List.length_take]; omega)

theorem owns_empty50 (w : World) : (w.alloc (.cells #[] 50)).ownsRow 0 50 2 (.slice (some ⟨w.heap.size, 0, none⟩) 0 0) 0 [] :=
  ⟨rfl, .inr ⟨w.heap.size, 0, #[], rfl, Nat.zero_le _, heap_alloc_new w _, Nat.le_refl _, by simp [maxLen], rfl, rfl⟩⟩

theorem new_way (w : World) (p1 p2 : Int) : ∀ j u, ([.int .i64 p1, .int .i64 p2] : List Value)[j]? = some u → (w.alloc (.cells #[.int .i64 p1, .int .i64 p2] 50)).cell? ((⟨w.heap.size, 0, none⟩ : Addr).add j) = some u :=
  World.news_of_block (w := w.alloc (.cells #[.int .i64 p1, .int .i64 p2] 50)) (heap_alloc_new w _)

theorem join_step {w wr w3 : World} {x y : Int} {k ga c g3 cap3 nq : Nat} {ws L0 : List (Int × Int)} {p1 p2 : Int} {o : Obj} (hb : Below w.heap.size w wr) (hsz : w.heap.size ≤ wr.heap.size) (hga : w.heap.size ≤ ga)
    (hm : L0 ++ [(p1, p2)] = refJoin (ws.take (k + 1)) x y)
    (hown3 : w3.ownsRow 0 50 2 (.slice (some ⟨g3, 0, none⟩) (L0.length + 1) cap3) (L0.length + 1) (wyCells L0 ++ [.int .i64 p1, .int .i64 p2]))
    (hgrow : ((wr.drewN nq).alloc o).grownBy w3 (Value.slice (some ⟨ga, 0, none⟩) L0.length c).ownBlock) (hat : (Value.slice (some ⟨ga, 0, none⟩) L0.length c).ownBlock = some g3 ∨ g3 = wr.heap.size + 1) :
    ∃ L1 ga' c', L1 = refJoin (ws.take (k + 1)) x y ∧ Value.slice (some ⟨g3, 0, none⟩) (L0.length + 1) cap3 = .slice (some ⟨ga', 0, none⟩) L1.length c' ∧ w.heap.size ≤ ga' ∧
      w3.ownsRow 0 50 2 (.slice (some ⟨ga', 0, none⟩) L1.length c') L1.length (wyCells L1) ∧ Below w.heap.size w w3 := by
  have hl : (L0 ++ [(p1, p2)]).length = L0.length + 1 := by simp
  refine ⟨_, g3, cap3, hm, by rw [hl], ?_, by rw [hl, wyCells_append]; exact hown3, ?_⟩
  · rcases hat with h | h
    · cases h; exact hga
    · omega
  · refine hb.trans ⟨hgrow.os, hgrow.tape, hgrow.output, ?_, fun q hq => ?_⟩
    · have h0 : (wr.alloc o).heap.size ≤ w3.heap.size := hgrow.size
      simp at h0; omega
    · have h0 : q < (wr.alloc o).heap.size := by simp; omega
      exact (hgrow.block q h0 (fun e => by simp [Value.ownBlock] at e; omega)).trans (Below.heap_alloc wr o q (by omega))

set_option maxRecDepth 100000 in
set_option maxHeartbeats 400000 in
theorem refjoin_calls (fp : List Nat) (R : Nat) (s : RS) (w : World) (x y : Int) (hn : RefAt w fp R s) :
    Calls Try.prog 43 #[.pointer (some ⟨R, 0, none⟩), .int .i64 x, .int .i64 y] w (RDid (.tuple #[]) w fp R ⟨s.ps, refJoin s.ws x y, s.sent, s.came⟩) := by
  have HN := Lib.hid hn
  have hb0 : Below w.heap.size w (w.alloc (.cells #[] 50)) := (Below.refl _ w).alloc (Nat.le_refl _) _
  have HB0 := Lib.hid hb0
  have HE := Lib.hid (owns_empty50 w)
  clear hn hb0
  go_enter Try.func43, Try.ntmps43
  go_wp2_with fail
  go_loopw [6, 7] (fun v i wr => ∃ k : Nat, k ≤ s.ws.length ∧ i = .int .i64 k ∧ ∃ L0 ga c, L0 = refJoin (s.ws.take k) x y ∧ v = .slice (some ⟨ga, 0, none⟩) L0.length c ∧ w.heap.size ≤ ga ∧
    wr.ownsRow 0 50 2 (.slice (some ⟨ga, 0, none⟩) L0.length c) L0.length (wyCells L0) ∧ Below w.heap.size w wr) (fun _ i _ => s.ws.length - (intOf i).toNat)
  case atStart => exact ⟨0, by omega, rfl, [], w.heap.size, 0, rfl, rfl, Nat.le_refl _, HE.out, HB0.out⟩
  case round =>
    obtain ⟨k, hk, rfl, L0, ga, c, hL0, rfl, hga, hown, hb⟩ := hrel
    have hn1 := HN.out.below hb
    have HB := Lib.hid hb
    have HN1 := Lib.hid hn1
    have HL0 := Lib.hid hL0
    have hjl : L0.length ≤ k := by rw [hL0]; exact join_le s.ws x y k
    obtain ⟨la, lc, wa, wc, rfl, hnd, hR, hl, hw, hlen, hws, hsent, hcame⟩ := hn1
    obtain ⟨c0, c1, c2, c3, cf⟩ := refCell hR
    have HOWN := Lib.hid hown
    have hsz := hb.size
    have HSZ := Lib.hid hsz
    have HGA := Lib.hid hga
    by_cases hlt : k < s.ws.length
    · obtain ⟨g, wc', hv, _, hg⟩ := hw.form (by omega)
      simp only [Value.slice.injEq, true_and] at hv
      obtain ⟨rfl, rfl⟩ := hv
      obtain ⟨q0, q1⟩ := wy_cells rfl hw k hlt
      obtain ⟨⟨p1, p2⟩, hP⟩ : ∃ P, P = s.ws.getD k (0, 0) := ⟨_, rfl⟩
      rw [← hP] at q0 q1
      have HFS := Lib.hid (filter_succ s.ws x y k hlt)
      have HY : Hid (meets x y (p1, p2) = true → L0 = refJoin (s.ws.take (k + 1)) x y) := fun h => by rw [HFS.out, ← hP, h, HL0.out]; rfl
      have HNT : Hid (meets x y (p1, p2) = false → L0 ++ [(p1, p2)] = refJoin (s.ws.take (k + 1)) x y) := fun h => by rw [HFS.out, ← hP, h, HL0.out]; rfl
      clear hP hw hg hR hnd HFS hL0 hl hb hown hsz hga
      obtain ⟨i0, hi, hz0, hz1, hz2⟩ := info_parts info50
      go_wp2_with fail
      go_quiet (fail)
      by_cases h1 : p1 = x
      · subst h1
        by_cases h2 : p2 = y
        · subst h2
          have HM := Lib.hid (HY.out (by simp [meets]))
          clear hi hz0 hz1 hz2
          go_wp2_with fail
          go_roundw
          case rel => exact ⟨k + 1, by omega, by go_num, L0, ga, c, HM.out, rfl, HGA.out, HOWN.out, HB.out.trans ⟨rfl, rfl, rfl, Nat.le_refl _, fun _ _ => rfl⟩⟩
          case measure => simp [intOf]; omega
        · have b2 : (p2 == y) = false := by simpa using h2
          by_cases h3 : p1 = y
          · subst h3
            have HM := Lib.hid (HNT.out (by simp [meets, h2]))
            have hown := HOWN.out
            go_wp2_with (at_builtin; go_loud (refine wpList_append_lies _ rfl (.tmp 55) (.tmp 63) 51 rfl 0 50 i0 _ 2 16 Try.underlying51 hi hz0 hz1 hz2 rfl (by decide) _ L0.length (wyCells L0) rfl (World.ownsRow.alloc (w := wr.drewN nq) hown _) ⟨wr.heap.size, 0, none⟩ 1 1 [.int .i64 p1, .int .i64 p2] rfl rfl ?c2 ?c3 ?c4 ?c5 ?c6 ?c7 _ rfl ?c8))
            case c2 => exact new_way (wr.drewN nq) p1 p2
            case c3 => exact wy_one [(p1, p2)]
            case c4 => omega
            case c5 => simp only [maxLen]; omega
            case c6 => omega
            case c7 => omega
            case c8 =>
              intro g3 cap3 w3 hown3 hgrow hat hg3
              have HS := Lib.hid (join_step HB.out HSZ.out HGA.out HM.out hown3 hgrow hat)
              clear hown hown3 hgrow hat hi hz0 hz1 hz2 i0 hg3
              go_wp2_with fail
              go_roundw
              case rel => exact ⟨k + 1, by omega, by go_num, HS.out⟩
              case measure => simp [intOf]; omega
          · have b3 : (p1 == y) = false := by simpa using h3
            have HM := Lib.hid (HNT.out (by simp [meets, h2, h3]))
            have hown := HOWN.out
            go_wp2_with (at_builtin; go_loud (refine wpList_append_lies _ rfl (.tmp 55) (.tmp 63) 51 rfl 0 50 i0 _ 2 16 Try.underlying51 hi hz0 hz1 hz2 rfl (by decide) _ L0.length (wyCells L0) rfl (World.ownsRow.alloc (w := wr.drewN nq) hown _) ⟨wr.heap.size, 0, none⟩ 1 1 [.int .i64 p1, .int .i64 p2] rfl rfl ?c2 ?c3 ?c4 ?c5 ?c6 ?c7 _ rfl ?c8))
            case c2 => exact new_way (wr.drewN nq) p1 p2
            case c3 => exact wy_one [(p1, p2)]
            case c4 => omega
            case c5 => simp only [maxLen]; omega
            case c6 => omega
            case c7 => omega
            case c8 =>
              intro g3 cap3 w3 hown3 hgrow hat hg3
              have HS := Lib.hid (join_step HB.out HSZ.out HGA.out HM.out hown3 hgrow hat)
              clear hown hown3 hgrow hat hi hz0 hz1 hz2 i0 hg3
              go_wp2_with fail
              go_roundw
              case rel => exact ⟨k + 1, by omega, by go_num, HS.out⟩
              case measure => simp [intOf]; omega
      · have b1 : (p1 == x) = false := by simpa using h1
        by_cases h3 : p1 = y
        · subst h3
          by_cases h4 : p2 = x
          · subst h4
            have HM := Lib.hid (HY.out (by simp [meets]))
            clear hi hz0 hz1 hz2
            go_wp2_with fail
            go_roundw
            case rel => exact ⟨k + 1, by omega, by go_num, L0, ga, c, HM.out, rfl, HGA.out, HOWN.out, HB.out.trans ⟨rfl, rfl, rfl, Nat.le_refl _, fun _ _ => rfl⟩⟩
            case measure => simp [intOf]; omega
          · have b4 : (p2 == x) = false := by simpa using h4
            have HM := Lib.hid (HNT.out (by simp [meets, h1, h4]))
            have hown := HOWN.out
            go_wp2_with (at_builtin; go_loud (refine wpList_append_lies _ rfl (.tmp 55) (.tmp 63) 51 rfl 0 50 i0 _ 2 16 Try.underlying51 hi hz0 hz1 hz2 rfl (by decide) _ L0.length (wyCells L0) rfl (World.ownsRow.alloc (w := wr.drewN nq) hown _) ⟨wr.heap.size, 0, none⟩ 1 1 [.int .i64 p1, .int .i64 p2] rfl rfl ?c2 ?c3 ?c4 ?c5 ?c6 ?c7 _ rfl ?c8))
            case c2 => exact new_way (wr.drewN nq) p1 p2
            case c3 => exact wy_one [(p1, p2)]
            case c4 => omega
            case c5 => simp only [maxLen]; omega
            case c6 => omega
            case c7 => omega
            case c8 =>
              intro g3 cap3 w3 hown3 hgrow hat hg3
              have HS := Lib.hid (join_step HB.out HSZ.out HGA.out HM.out hown3 hgrow hat)
              clear hown hown3 hgrow hat hi hz0 hz1 hz2 i0 hg3
              go_wp2_with fail
              go_roundw
              case rel => exact ⟨k + 1, by omega, by go_num, HS.out⟩
              case measure => simp [intOf]; omega
        · have b3 : (p1 == y) = false := by simpa using h3
          have HM := Lib.hid (HNT.out (by simp [meets, h1, h3]))
          have hown := HOWN.out
          go_wp2_with (at_builtin; go_loud (refine wpList_append_lies _ rfl (.tmp 55) (.tmp 63) 51 rfl 0 50 i0 _ 2 16 Try.underlying51 hi hz0 hz1 hz2 rfl (by decide) _ L0.length (wyCells L0) rfl (World.ownsRow.alloc (w := wr.drewN nq) hown _) ⟨wr.heap.size, 0, none⟩ 1 1 [.int .i64 p1, .int .i64 p2] rfl rfl ?c2 ?c3 ?c4 ?c5 ?c6 ?c7 _ rfl ?c8))
          case c2 => exact new_way (wr.drewN nq) p1 p2
          case c3 => exact wy_one [(p1, p2)]
          case c4 => omega
          case c5 => simp only [maxLen]; omega
          case c6 => omega
          case c7 => omega
          case c8 =>
            intro g3 cap3 w3 hown3 hgrow hat hg3
            have HS := Lib.hid (join_step HB.out HSZ.out HGA.out HM.out hown3 hgrow hat)
            clear hown hown3 hgrow hat hi hz0 hz1 hz2 i0 hg3
            go_wp2_with fail
            go_roundw
            case rel => exact ⟨k + 1, by omega, by go_num, HS.out⟩
            case measure => simp [intOf]; omega
    · obtain rfl : k = s.ws.length := by omega
      have hL1 : L0 = refJoin s.ws x y := by rw [hL0, List.take_length]
      have hfin : ∃ fq, RefAt (wr.setCell ⟨R, 1, none⟩ (.slice (some ⟨ga, 0, none⟩) L0.length c)) fq R ⟨s.ps, refJoin s.ws x y, s.sent, s.came⟩ ∧
          Fr w (wr.setCell ⟨R, 1, none⟩ (.slice (some ⟨ga, 0, none⟩) L0.length c)) (R :: (blk la ++ blk wa)) fq := by
        have hv1 := HN.out.valid
        obtain ⟨la', lc', wa', wc', hfp, hnd', hR', hl', hw', _, _, _, _⟩ := HN.out
        rw [← hL1, hfp]
        rw [hfp] at hnd' hv1
        exact ⟨_, ref_wayed hR' hnd' hl' hv1 rfl hown ⟨hb.os, hb.tape, hb.output, hb.size, fun q hq _ => hb.block q hq, fun q hq => by simp at hq; subst hq; exact .inr hga⟩ hlen (by omega) hsent hcame⟩
      have HFIN := Lib.hid hfin
      clear hfin hL1 hL0 hown hb hl hw hR hnd
      go_wp2_with fail
      go_end0
      obtain ⟨fq, h1, h2⟩ := HFIN.out
      exact ⟨fq, rfl, h1, h2⟩

end Go.Proofs.Ytjeiakfdjbnkaaa

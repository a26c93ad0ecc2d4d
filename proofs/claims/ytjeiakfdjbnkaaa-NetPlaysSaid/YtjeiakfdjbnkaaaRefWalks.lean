/-
  The walks of the reference's There and IsCut.
-/
import Derived.Test.YtjeiakfdjbnkaaaRefAt
import Derived.WalkKit
import Derived.WalkSpells
import Derived.WalkLawsBesides
import Derived.Below
import Derived.Lib.Hide
import Derived.Outline
import Derived.BigQuiet
import Derived.Deep.RegionWith
namespace Go.Proofs.Ytjeiakfdjbnkaaa
open Go.RowKit
set_option linter.unusedVariables false

/-- A way that was cut is the way between x and y. -/
def meets (x y : Int) (q : Int × Int) : Bool := (decide (q.1 = x) && decide (q.2 = y)) || (decide (q.1 = y) && decide (q.2 = x))
def refCut (ws : List (Int × Int)) (x y : Int) : Bool := ws.any (meets x y)

theorem refCut_yes {ws : List (Int × Int)} {x y : Int} (k : Nat) (hk : k < ws.length) (h : meets x y (ws.getD k (0, 0)) = true) : refCut ws x y = true := by
  unfold refCut
  rw [List.any_eq_true]
  rw [List.getD_eq_getElem?_getD, List.getElem?_eq_getElem hk] at h
  exact ⟨_, List.getElem_mem hk, h⟩
theorem refCut_no {ws : List (Int × Int)} {x y : Int} (h : ∀ k, k < ws.length → meets x y (ws.getD k (0, 0)) = false) : refCut ws x y = false := by
  unfold refCut
  rw [List.any_eq_false]
  intro q hq
  obtain ⟨k, hk, rfl⟩ := List.getElem_of_mem hq
  have := h k hk
  rw [List.getD_eq_getElem?_getD, List.getElem?_eq_getElem hk] at this
  simpa using this

set_option maxRecDepth 100000 in
set_option maxHeartbeats 400000 in
theorem there_calls (fp : List Nat) (R : Nat) (s : RS) (w : World) (i : Int) (hn : RefAt w fp R s) :
    Calls Try.prog 44 #[.pointer (some ⟨R, 0, none⟩), .int .i64 i] w fun e w' => e = .returned (.bool (decide (0 ≤ i ∧ i < s.ps.length))) ∧ w = w' := by
  obtain ⟨la, lc, wa, wc, rfl, hnd, hR, hl, hw, hlen, hws, hsent, hcame⟩ := hn
  obtain ⟨c0, c1, c2, c3, cf⟩ := refCell hR
  clear hR hl hw hnd
  by_cases h0 : 0 ≤ i
  · by_cases h1 : i < s.ps.length
    · rw [decide_eq_true (And.intro h0 h1)]
      go_enter Try.func44, Try.ntmps44
      go_wp2_with fail
      go_ret
      exact ⟨rfl, rfl⟩
    · rw [decide_eq_false (fun h => h1 h.2)]
      go_enter Try.func44, Try.ntmps44
      go_wp2_with fail
      go_ret
      exact ⟨rfl, rfl⟩
  · rw [decide_eq_false (fun h => h0 h.1)]
    have h0' : i < 0 := by omega
    go_enter Try.func44, Try.ntmps44
    go_wp2_with fail
    go_ret
    exact ⟨rfl, rfl⟩

set_option maxRecDepth 100000 in
set_option maxHeartbeats 400000 in
theorem refcut_calls (fp : List Nat) (R : Nat) (s : RS) (w : World) (x y : Int) (hn : RefAt w fp R s) :
    Calls Try.prog 34 #[.pointer (some ⟨R, 0, none⟩), .int .i64 x, .int .i64 y] w fun e w' => e = .returned (.bool (refCut s.ws x y)) ∧ Below w.heap.size w w' := by
  have HN := Lib.hid hn
  clear hn
  go_enter Try.func34, Try.ntmps34
  go_wp2_with fail
  go_loopw [7] (fun i wr => ∃ k : Nat, k ≤ s.ws.length ∧ i = .int .i64 k ∧ (∀ q, q < k → meets x y (s.ws.getD q (0, 0)) = false) ∧ Below w.heap.size w wr) (fun i _ => s.ws.length - (intOf i).toNat)
  case atStart => exact ⟨0, by omega, rfl, fun q hq => by omega, Below.refl _ _⟩
  case round =>
    obtain ⟨k, hk, rfl, hno, hb⟩ := hrel
    have HNO := Lib.hid hno
    have hn1 := HN.out.below hb
    have HB := Lib.hid hb
    obtain ⟨la, lc, wa, wc, rfl, hnd, hR, hl, hw, hlen, hws, hsent, hcame⟩ := hn1
    obtain ⟨c0, c1, c2, c3, cf⟩ := refCell hR
    clear hR hl hnd hno hb
    by_cases hlt : k < s.ws.length
    · obtain ⟨g, wc', hv, _, hg⟩ := hw.form (by omega)
      simp only [Value.slice.injEq, true_and] at hv
      obtain ⟨rfl, rfl⟩ := hv
      obtain ⟨q0, q1⟩ := wy_cells rfl hw k hlt
      obtain ⟨⟨p1, p2⟩, hP⟩ : ∃ P, P = s.ws.getD k (0, 0) := ⟨_, rfl⟩
      rw [← hP] at q0 q1
      have HP := Lib.hid hP
      clear hP hw hg
      go_wp2_with fail
      go_quiet (fail)
      by_cases h1 : p1 = x
      · by_cases h2 : p2 = y
        · have hm : meets x y (s.ws.getD k (0, 0)) = true := by rw [← HP.out]; simp [meets, h1, h2]
          have HM := Lib.hid (refCut_yes k hlt hm)
          clear hm
          go_wp2_with fail
          go_ret
          exact ⟨by rw [HM.out]; rfl, HB.out.trans ⟨rfl, rfl, rfl, Nat.le_refl _, fun _ _ => rfl⟩⟩
        · by_cases h3 : p1 = y
          · subst h1
            subst h3
            have hm : meets p1 p1 (s.ws.getD k (0, 0)) = false := by rw [← HP.out]; simp [meets, h2]
            have HM := Lib.hid hm
            clear hm
            go_wp2_with fail
            go_roundw
            case rel =>
              refine ⟨k + 1, by omega, by go_num, fun q hq => ?_, HB.out.trans ⟨rfl, rfl, rfl, Nat.le_refl _, fun _ _ => rfl⟩⟩
              rcases Nat.lt_succ_iff_lt_or_eq.1 hq with hq | rfl
              · exact HNO.out q hq
              · exact HM.out
            case measure => simp [intOf]; omega
          · have hm : meets x y (s.ws.getD k (0, 0)) = false := by rw [← HP.out]; simp [meets, h2, h3]
            have HM := Lib.hid hm
            clear hm
            go_wp2_with fail
            go_roundw
            case rel =>
              refine ⟨k + 1, by omega, by go_num, fun q hq => ?_, HB.out.trans ⟨rfl, rfl, rfl, Nat.le_refl _, fun _ _ => rfl⟩⟩
              rcases Nat.lt_succ_iff_lt_or_eq.1 hq with hq | rfl
              · exact HNO.out q hq
              · exact HM.out
            case measure => simp [intOf]; omega
      · by_cases h3 : p1 = y
        · by_cases h4 : p2 = x
          · have hm : meets x y (s.ws.getD k (0, 0)) = true := by rw [← HP.out]; simp [meets, h3, h4]
            have HM := Lib.hid (refCut_yes k hlt hm)
            clear hm
            go_wp2_with fail
            go_ret
            exact ⟨by rw [HM.out]; rfl, HB.out.trans ⟨rfl, rfl, rfl, Nat.le_refl _, fun _ _ => rfl⟩⟩
          · have hm : meets x y (s.ws.getD k (0, 0)) = false := by rw [← HP.out]; simp [meets, h1, h4]
            have HM := Lib.hid hm
            clear hm
            go_wp2_with fail
            go_roundw
            case rel =>
              refine ⟨k + 1, by omega, by go_num, fun q hq => ?_, HB.out.trans ⟨rfl, rfl, rfl, Nat.le_refl _, fun _ _ => rfl⟩⟩
              rcases Nat.lt_succ_iff_lt_or_eq.1 hq with hq | rfl
              · exact HNO.out q hq
              · exact HM.out
            case measure => simp [intOf]; omega
        · have hm : meets x y (s.ws.getD k (0, 0)) = false := by rw [← HP.out]; simp [meets, h1, h3]
          have HM := Lib.hid hm
          clear hm
          go_wp2_with fail
          go_roundw
          case rel =>
            refine ⟨k + 1, by omega, by go_num, fun q hq => ?_, HB.out.trans ⟨rfl, rfl, rfl, Nat.le_refl _, fun _ _ => rfl⟩⟩
            rcases Nat.lt_succ_iff_lt_or_eq.1 hq with hq | rfl
            · exact HNO.out q hq
            · exact HM.out
          case measure => simp [intOf]; omega
    · obtain rfl : k = s.ws.length := by omega
      have HM := Lib.hid (refCut_no (x := x) (y := y) HNO.out)
      clear hw
      go_wp2_with fail
      go_ret
      exact ⟨by rw [HM.out]; rfl, HB.out⟩

end Go.Proofs.Ytjeiakfdjbnkaaa

/-
  For every three ends the law NetCuts returns true (over a way that is cut nothing comes). No condition.
-/
import Derived.Test.YtjeiakfdjbnkaaaNetAwake
import Derived.WalkKit
import Derived.ProofKit
import Derived.OpenShut
import Derived.ShutString
import Derived.ChangeOld
import Derived.Below
import Derived.WalkSpells
import Derived.WalkLawsBesides
import Derived.Lib.Hide
namespace Go.Proofs.Ytjeiakfdjbnkaaa.netCuts
open Go.ChangeShapes Go.WideShapes Go.ChangeAt Go.RowKit
open Go.ChangeMaps (open_string shut_string)
set_option linter.unusedVariables false

theorem own : ownKnob Try.prog.godebug = none := by kernel_rfl
theorem laidOut : laidOutB Try.prog = true := by kernel_rfl

theorem btw_comm (a b : Int) : btw a b = btw b a := by
  unfold btw; rw [Int.min_comm, Int.max_comm]

theorem btw_eq (x y a b : Int) : btw x y = btw a b ↔ (x = a ∧ y = b) ∨ (x = b ∧ y = a) := by
  unfold btw
  rw [Prod.mk.injEq]
  constructor
  · rintro ⟨h1, h2⟩; omega
  · rintro (⟨rfl, rfl⟩ | ⟨rfl, rfl⟩)
    · exact ⟨rfl, rfl⟩
    · exact ⟨Int.min_comm _ _, Int.max_comm _ _⟩

theorem hasWay_one (x y a b : Int) : hasWay [btw a b] (btw x y) = ((x == a && y == b) || (x == b && y == a)) := by
  unfold hasWay
  rw [Bool.eq_iff_iff]
  simp only [List.contains_cons, List.contains_nil, Bool.or_false, beq_iff_eq, Bool.or_eq_true, Bool.and_eq_true]
  exact btw_eq x y a b

theorem hasWay_nil (p : Int × Int) : hasWay [] p = false := rfl

theorem join_one (a b : Int) : joinWay [btw a b] (btw b a) = [] := by
  rw [btw_comm b a]
  unfold joinWay wayAt
  simp

/-- The ways that are tried. -/
def wx (a b c : Int) : Nat → Int × Int
  | 0 => (a, b)
  | 1 => (b, a)
  | 2 => (a, c)
  | _ => (c, b)

def wayCells (a b c : Int) : Array Value := #[.int .i64 a, .int .i64 b, .int .i64 b, .int .i64 a, .int .i64 a, .int .i64 c, .int .i64 c, .int .i64 b]

theorem way_cell {w : World} {Wb : Nat} {a b c : Int} (h : w.heap[Wb]? = some (.cells (wayCells a b c) 50 (0, 0))) (k : Nat) (hk : k < 4) :
    w.cell? ⟨Wb, k * 2, none⟩ = some (.int .i64 (wx a b c k).1) ∧ w.cell? ⟨Wb, k * 2 + 1, none⟩ = some (.int .i64 (wx a b c k).2) := by
  refine ⟨?_, ?_⟩ <;> rw [cell_of_row w Wb _ _ 50 (0, 0) h] <;> rcases (by omega : k = 0 ∨ k = 1 ∨ k = 2 ∨ k = 3) with rfl | rfl | rfl | rfl <;> rfl

theorem box2 {w : World} {b : Nat} {x y : Value} (h : w.heap[b]? = some (.cells #[x, y] 50 (0, 0))) : w.cell? ⟨b, 0, none⟩ = some x ∧ w.cell? ⟨b, 1, none⟩ = some y := by
  refine ⟨?_, ?_⟩ <;> rw [cell_of_row w b _ _ 50 (0, 0) h] <;> rfl

set_option maxRecDepth 100000 in
set_option maxHeartbeats 1600000 in
theorem walk (a0 a1 a2 : Int) (w0 : (Lit.int .i64 a0).wf = true) (w1 : (Lit.int .i64 a1).wf = true) (w2 : (Lit.int .i64 a2).wf = true) (w : World) :
    Calls Try.prog 10 #[.int .i64 a0, .int .i64 a1, .int .i64 a2] w fun e w' => e = .returned (.bool true) ∧ Below w.heap.size w w' := by
  clear w0 w1 w2
  go_enter Try.func10, Try.ntmps10
  go_wp2_with fail
  refine (awake_calls _).mono ?_
  rintro e wa ⟨rfl, hb⟩
  have HB := Lib.hid hb
  clear hb
  go_wp2_with fail
  refine (new_calls _).mono ?_
  rintro e w1 ⟨B, fp, rfl, hn1, hf1⟩
  have HN1 := Lib.hid hn1
  have HF1 := Lib.hid hf1
  clear hn1 hf1
  go_wp2_with fail
  refine (cut_calls fp B _ _ _ _ HN1.out).mono ?_
  rintro e w2 ⟨fp2, rfl, hn2, hf2⟩
  have HN2 : Hid (NetAt w2 fp2 B ⟨[], [btw a0 a1], 0, 0⟩) := hn2
  have HF2 := Lib.hid (HF1.out.trans hf2)
  clear hn2 hf2
  go_wp2_with fail
  have HN3 := Lib.hid (NetAt.below HN2.out ((Below.refl _ w2).alloc (Nat.le_refl _) (.cells (wayCells a0 a1 a2) 50)))
  have HF3 := Lib.hid (HF2.out.trans (Fr.of_below ((Below.refl _ w2).alloc (Nat.le_refl _) (.cells (wayCells a0 a1 a2) 50)) fp2))
  have HW := Lib.hid (heap_alloc_new w2 (.cells (wayCells a0 a1 a2) 50))
  have hval := HN2.out.valid
  have HWf : Hid (w2.heap.size ∉ fp2) := fun hm => by have := hval _ hm; omega
  clear hval
  go_loopw [37] (fun i wr => ∃ k : Nat, k ≤ 4 ∧ i = .int .i64 k ∧ ∃ fq came, came ≤ k ∧ NetAt wr fq B ⟨[], [btw a0 a1], k, came⟩ ∧ Fr (w2.alloc (.cells (wayCells a0 a1 a2) 50)) wr fp2 fq) (fun i _ => 4 - (intOf i).toNat)
  case atStart => exact ⟨0, by omega, rfl, fp2, 0, by omega, HN3.out, Fr.refl _ _⟩
  case round =>
    clear HN3
    obtain ⟨k, hk, rfl, fq, came, hcame, hnk, hfk⟩ := hrel
    have HNK := Lib.hid hnk
    have HFK := Lib.hid hfk
    by_cases hlt : k < 4
    · have hcells := way_cell ((hfk.block w2.heap.size (by simp) HWf.out).trans HW.out) k hlt
      generalize (wx a0 a1 a2 k).1 = x at hcells
      generalize (wx a0 a1 a2 k).2 = y at hcells
      obtain ⟨cx, cy⟩ := hcells
      clear hnk hfk
      have HN4 := Lib.hid (NetAt.below HNK.out ((Below.refl _ wr).alloc (Nat.le_refl _) (.cells #[.int .i64 x, .int .i64 y] 50)))
      have HF4 := Lib.hid (HFK.out.trans (Fr.of_below ((Below.refl _ wr).alloc (Nat.le_refl _) (.cells #[.int .i64 x, .int .i64 y] 50)) fq))
      have HV4 := Lib.hid HNK.out.valid
      go_wp2_with fail
      refine (send_calls fq B _ _ ⟨x, y, ⟨#[120]⟩⟩ HN4.out (by simp; omega) (by simp)).mono ?_
      rintro e w5 ⟨f5, rfl, hn5, hf5⟩
      have HN5 : Hid (NetAt w5 f5 B ⟨[⟨x, y, ⟨#[120]⟩⟩], [btw a0 a1], k + 1, came⟩) := hn5
      have hbox : w5.heap[wr.heap.size]? = some (.cells #[.int .i64 x, .int .i64 y] 50 (0, 0)) :=
        (hf5.block _ (by simp) (fun hm => by have := HV4.out _ hm; omega)).trans (heap_alloc_new wr _)
      have HBX := Lib.hid hbox
      have hltb := (Array.getElem?_eq_some_iff.1 hbox).1
      have hnot5 : wr.heap.size ∉ f5 := fun hm => by
        rcases hf5.src _ hm with h | h
        · have := HV4.out _ h; omega
        · simp at h; omega
      have HNOT5 := Lib.hid hnot5
      have HF5 := Lib.hid (HF4.out.trans hf5)
      clear hn5 hf5 hbox hnot5 cx cy
      have hway := hasWay_one x y a0 a1
      have HWAY := Lib.hid hway
      clear hway
      cases hxa : (x == a0) <;> cases hyb : (y == a1) <;> cases hxb : (x == a1) <;> cases hya : (y == a0)
      all_goals
        first
        | (have hw1 : hasWay [btw a0 a1] (btw x y) = true := by (rw [HWAY.out, hxa, hyb, hxb, hya]; rfl)
           have HT : Hid (Calls Try.prog 27 #[.pointer (some ⟨B, 0, none⟩), .int .i64 0] w5 (Did (.tuple #[.agg #[.int .i64 0, .int .i64 0, .string ByteArray.empty], .bool false]) w5 f5 B ⟨[], [btw a0 a1], k + 1, came⟩)) :=
             take_cut f5 B ⟨[⟨x, y, ⟨#[120]⟩⟩], [btw a0 a1], k + 1, came⟩ w5 0 HN5.out (by simp) hw1
           clear hw1
           go_wp2_with fail
           refine HT.out.mono ?_
           rintro e w6 ⟨f6, rfl, hn6, hf6⟩
           obtain ⟨bx, by'⟩ := box2 ((hf6.block _ hltb HNOT5.out).trans HBX.out)
           have hx7 := cell_past (.cells #[.int .i64 0, .int .i64 0, .string ByteArray.empty] 40) bx
           have hy7 := cell_past (.cells #[.int .i64 0, .int .i64 0, .string ByteArray.empty] 40) by'
           have HN7 := Lib.hid (NetAt.below hn6 ((Below.refl _ w6).alloc (Nat.le_refl _) (.cells #[.int .i64 0, .int .i64 0, .string ByteArray.empty] 40)))
           have HF7 := Lib.hid ((HF5.out.trans hf6).trans (Fr.of_below ((Below.refl _ w6).alloc (Nat.le_refl _) (.cells #[.int .i64 0, .int .i64 0, .string ByteArray.empty] 40)) f6))
           clear hn6 hf6 bx by' HT
           go_wp2_with fail
           refine (len_calls _ _ _ _ HN7.out).mono ?_
           rintro e w' ⟨rfl, rfl⟩
           clear hx7 hy7
           go_wp2_with fail
           go_roundw
           case rel => exact ⟨k + 1, by omega, by go_num, f6, came, by omega, HN7.out, HF7.out⟩
           case measure => simp [intOf]; omega)
        | (have hw1 : hasWay [btw a0 a1] (btw x y) = false := by (rw [HWAY.out, hxa, hyb, hxb, hya]; rfl)
           have HT : Hid (Calls Try.prog 27 #[.pointer (some ⟨B, 0, none⟩), .int .i64 0] w5 (Did (.tuple #[.agg #[.int .i64 x, .int .i64 y, .string ⟨#[120]⟩], .bool true]) w5 f5 B ⟨[], [btw a0 a1], k + 1, came + 1⟩)) :=
             take_yes f5 B ⟨[⟨x, y, ⟨#[120]⟩⟩], [btw a0 a1], k + 1, came⟩ w5 0 HN5.out (by simp) (by simp; omega) hw1
           clear hw1
           go_wp2_with fail
           refine HT.out.mono ?_
           rintro e w6 ⟨f6, rfl, hn6, hf6⟩
           obtain ⟨bx, by'⟩ := box2 ((hf6.block _ hltb HNOT5.out).trans HBX.out)
           have hx7 := cell_past (.cells #[.int .i64 x, .int .i64 y, .string ⟨#[120]⟩] 40) bx
           have hy7 := cell_past (.cells #[.int .i64 x, .int .i64 y, .string ⟨#[120]⟩] 40) by'
           have HN7 := Lib.hid (NetAt.below hn6 ((Below.refl _ w6).alloc (Nat.le_refl _) (.cells #[.int .i64 x, .int .i64 y, .string ⟨#[120]⟩] 40)))
           have HF7 := Lib.hid ((HF5.out.trans hf6).trans (Fr.of_below ((Below.refl _ w6).alloc (Nat.le_refl _) (.cells #[.int .i64 x, .int .i64 y, .string ⟨#[120]⟩] 40)) f6))
           clear hn6 hf6 bx by' HT
           go_wp2_with fail
           refine (len_calls _ _ _ _ HN7.out).mono ?_
           rintro e w' ⟨rfl, rfl⟩
           clear hx7 hy7
           go_wp2_with fail
           go_roundw
           case rel => exact ⟨k + 1, by omega, by go_num, f6, came + 1, by omega, HN7.out, HF7.out⟩
           case measure => simp [intOf]; omega)
    · obtain rfl : k = 4 := by omega
      clear hnk hfk
      go_wp2_with fail
      refine (join_calls fq B _ _ _ _ HNK.out).mono ?_
      rintro e w4 ⟨f4, rfl, hn4, hf4⟩
      have HN4 : Hid (NetAt w4 f4 B ⟨[], [], 4, came⟩) := by unfold Hid; rw [← join_one a0 a1]; exact hn4
      have HF4 := Lib.hid (HF3.out.trans (HFK.out.trans hf4))
      clear hn4 hf4
      go_wp2_with fail
      refine (send_calls f4 B _ _ ⟨a0, a1, ⟨#[121]⟩⟩ HN4.out (by simp) (by simp)).mono ?_
      rintro e w5 ⟨f5, rfl, hn5, hf5⟩
      have HN5 : Hid (NetAt w5 f5 B ⟨[⟨a0, a1, ⟨#[121]⟩⟩], [], 5, came⟩) := hn5
      have HF5 := Lib.hid (HF4.out.trans hf5)
      clear hn5 hf5
      have hT : Calls Try.prog 27 #[.pointer (some ⟨B, 0, none⟩), .int .i64 0] w5 (Did (.tuple #[.agg #[.int .i64 a0, .int .i64 a1, .string ⟨#[121]⟩], .bool true]) w5 f5 B ⟨[], [], 5, came + 1⟩) :=
        take_yes f5 B ⟨[⟨a0, a1, ⟨#[121]⟩⟩], [], 5, came⟩ w5 0 HN5.out (by simp) (by simp; omega) rfl
      have HT := Lib.hid hT
      clear hT
      go_wp2_with fail
      refine HT.out.mono ?_
      rintro e w6 ⟨f6, rfl, hn6, hf6⟩
      have HN6 := Lib.hid (NetAt.below hn6 ((Below.refl _ w6).alloc (Nat.le_refl _) (.cells #[.int .i64 a0, .int .i64 a1, .string ⟨#[121]⟩] 40)))
      have HF6 := Lib.hid ((HF5.out.trans hf6).trans (Fr.of_below ((Below.refl _ w6).alloc (Nat.le_refl _) (.cells #[.int .i64 a0, .int .i64 a1, .string ⟨#[121]⟩] 40)) f6))
      clear hn6 hf6 HT
      go_wp2_with fail
      refine (cut_calls f6 B _ _ _ _ HN6.out).mono ?_
      rintro e w7 ⟨f7, rfl, hn7, hf7⟩
      have HN7 := Lib.hid hn7
      have HF7 := Lib.hid (HF6.out.trans hf7)
      clear hn7 hf7
      go_wp2_with fail
      refine (cut_calls f7 B _ _ _ _ HN7.out).mono ?_
      rintro e w8 ⟨f8, rfl, hn8, hf8⟩
      have HN8 := Lib.hid hn8
      have HF8 := Lib.hid (HF7.out.trans hf8)
      clear hn8 hf8
      go_wp2_with fail
      refine (heal_calls f8 B _ _ HN8.out).mono ?_
      rintro e w9 ⟨f9, rfl, hn9, hf9⟩
      have HN9 : Hid (NetAt w9 f9 B ⟨[], [], 5, came + 1⟩) := hn9
      have HF9 := Lib.hid (HF8.out.trans hf9)
      clear hn9 hf9
      go_wp2_with fail
      refine (send_calls f9 B _ _ ⟨a1, a0, ⟨#[122]⟩⟩ HN9.out (by simp) (by simp)).mono ?_
      rintro e w10 ⟨f10, rfl, hn10, hf10⟩
      have HN10 : Hid (NetAt w10 f10 B ⟨[⟨a1, a0, ⟨#[122]⟩⟩], [], 6, came + 1⟩) := hn10
      have HF10 := Lib.hid (HF9.out.trans hf10)
      clear hn10 hf10
      have hT : Calls Try.prog 27 #[.pointer (some ⟨B, 0, none⟩), .int .i64 0] w10 (Did (.tuple #[.agg #[.int .i64 a1, .int .i64 a0, .string ⟨#[122]⟩], .bool true]) w10 f10 B ⟨[], [], 6, came + 1 + 1⟩) :=
        take_yes f10 B ⟨[⟨a1, a0, ⟨#[122]⟩⟩], [], 6, came + 1⟩ w10 0 HN10.out (by simp) (by simp; omega) rfl
      have HT := Lib.hid hT
      clear hT
      go_wp2_with fail
      refine HT.out.mono ?_
      rintro e w11 ⟨f11, rfl, hn11, hf11⟩
      have HN11 := Lib.hid (NetAt.below hn11 ((Below.refl _ w11).alloc (Nat.le_refl _) (.cells #[.int .i64 a1, .int .i64 a0, .string ⟨#[122]⟩] 40)))
      have HF11 := Lib.hid ((HF10.out.trans hf11).trans (Fr.of_below ((Below.refl _ w11).alloc (Nat.le_refl _) (.cells #[.int .i64 a1, .int .i64 a0, .string ⟨#[122]⟩] 40)) f11))
      clear hn11 hf11 HT
      go_wp2_with fail
      refine (iscut_calls f11 B _ _ _ _ HN11.out).mono ?_
      rintro e w12 ⟨rfl, hb12⟩
      have HF12 := Lib.hid (HF11.out.trans (Fr.of_below hb12 f11))
      clear hb12
      simp only [hasWay_nil]
      go_wp2_with fail
      go_ret
      exact ⟨rfl, HB.out.trans ((HF12.out.below (Nat.le_refl _) (by simp)).mono HB.out.size)⟩

/-! ### The row's step (as the guide's shell writes it, with 'Below') -/
set_option maxRecDepth 100000 in
theorem lifted (os : Os) (started : os.Started) (H : Type) (enc : TypeId × Value → H) :
    ReturnsInHanded {} Try.checked os 10 .any (Rows.netCutsSpec.pre6 enc Try.prog Try.f10 Rows.netCutsRow.domain false) (Rows.netCutsSpec.post enc Try.prog Try.f10 false true false false) := by
  refine returnsInHanded_of_change (C := Try.checked) own started (by kernel_rfl) Try.func10
    (ChangeSpec.witness6 (enc := enc) (C := Try.checked) false ⟨#[], #[.int .i64 0, .int .i64 0, .int .i64 0], []⟩ 8 (by kernel_rfl) (by kernel_rfl) (by kernel_rfl) (by kernel_rfl)) ?_
  intro W base args ds gs before hval0 hW hcnd _
  have hval : ∀ (j : Nat) t v, Try.f10.params[j]? = some t → args[j]? = some v → Value.okWide Try.prog W .any base t v := hval0
  have hW' := hW
  obtain ⟨p, q, hA0, hV, rfl, hfz, hnd⟩ := hW
  have hA : DataW.TrodAll enc Try.prog W 0 (fun _ => true) true Try.f10.params.toList args.toList ds p := hA0
  rw [Try.params10] at hA hval
  obtain ⟨v0, vs0, d0, ds0, p0, q0, hargs, rfl, rfl, h0, r0⟩ := trodAll_cons hA
  obtain ⟨v1, vs1, d1, ds1, p1, q1, rfl, rfl, rfl, h1, r1⟩ := trodAll_cons r0
  obtain ⟨v2, vs2, d2, ds2, p2, q2, rfl, rfl, rfl, h2, r2⟩ := trodAll_cons r1
  obtain ⟨rfl, rfl, rfl⟩ := trodAll_nil r2
  obtain rfl : args = #[v0, v1, v2] := by cases args; simp_all
  obtain ⟨rfl, rfl⟩ := trodVars_none hV
  obtain ⟨a0, rfl, rfl, rfl, w0⟩ := open_int Try.underlying3 (hval 0 3 v0 rfl rfl) h0
  obtain ⟨a1, rfl, rfl, rfl, w1⟩ := open_int Try.underlying3 (hval 1 3 v1 rfl rfl) h1
  obtain ⟨a2, rfl, rfl, rfl, w2⟩ := open_int Try.underlying3 (hval 2 3 v2 rfl rfl) h2
  clear hA0 hval0
  simp only [List.append_nil] at hW'
  refine (walk a0 a1 a2 w0 w1 w2 W).mono fun e W' ⟨he, bel⟩ => ?_
  subst he
  exact ⟨_, rfl, _, _, _, [], _, [], hW', trodAll_mk1 (shut_bool Try.underlying4 _), (trodAll_cons_mk (shut_int Try.underlying3 w0) (trodAll_cons_mk (shut_int Try.underlying3 w1) (trodAll_cons_mk (shut_int Try.underlying3 w2) trodAll_mk0))), rfl, bel.frame _, fun h => by cases h⟩

theorem over : Rows.netCutsRow.holds Try.pinned (OpenSpec.ofChange Rows.netCutsSpec) :=
  OpenClaim.holds_of_wide 10 Try.f10 rfl rfl rfl rfl rfl rfl rfl ⟨rfl, rfl, rfl, rfl, rfl⟩ rfl rfl rfl rfl rfl (by kernel_rfl) Try.func10 (by kernel_rfl)
    (of_decide_eq_true (by kernel_rfl)) (by unfold Func.isWrapper; first | (rw [if_pos (by decide +kernel)]; kernel_rfl) | (rw [if_neg (by decide +kernel)]; exact ⟨rfl, rfl⟩))
    (fun os started H enc _ => lifted os started H enc)

/-- The statement. -/
theorem proved : Rows.NetCutsSaid :=
  over
#print axioms proved
end Go.Proofs.Ytjeiakfdjbnkaaa.netCuts

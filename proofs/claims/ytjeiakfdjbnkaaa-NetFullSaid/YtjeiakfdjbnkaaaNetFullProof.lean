/-
  For every count and text the law NetFull returns true (no more than 256 packets are on their way). No condition.
-/
import Derived.Test.YtjeiakfdjbnkaaaNetAwake
import Derived.WalkKit
import Derived.ProofKit
import Derived.OpenShut
import Derived.ShutString
import Derived.ChangeOld
import Derived.Below
namespace Go.Proofs.Ytjeiakfdjbnkaaa.netFull
open Go.ChangeShapes Go.WideShapes Go.ChangeAt Go.RowKit
open Go.ChangeMaps (open_string shut_string)
set_option linter.unusedVariables false

theorem own : ownKnob Try.prog.godebug = none := by kernel_rfl
theorem laidOut : laidOutB Try.prog = true := by kernel_rfl

/-- The packets behind k sends. -/
def sends (t : ByteArray) (k : Nat) : List Pk := (List.range k).map fun (j : Nat) => ⟨(j : Int), 1, t⟩

theorem sends_succ (t : ByteArray) (k : Nat) : sends t (k + 1) = sends t k ++ [⟨(k : Int), 1, t⟩] := by simp [sends, List.range_succ]
theorem sends_length (t : ByteArray) (k : Nat) : (sends t k).length = k := by simp [sends]

set_option maxRecDepth 100000 in
set_option maxHeartbeats 800000 in
theorem walk (a0 : Int) (a1 : ByteArray) (w0 : (Lit.int .u8 a0).wf = true) (w1 : a1.size ≤ maxLen) (w : World) :
    Calls Try.prog 8 #[.int .u8 a0, .string a1] w fun e w' => e = .returned (.bool true) ∧ Below w.heap.size w w' := by
  have hr : 0 ≤ a0 ∧ a0 ≤ 255 := by
    simp [Lit.wf, IntKind.min, IntKind.max, IntKind.bits, IntKind.signed] at w0
    omega
  obtain ⟨m, rfl⟩ := Int.eq_ofNat_of_zero_le hr.1
  have hm : m ≤ 255 := by omega
  clear w0 w1 hr
  go_enter Try.func8, Try.ntmps8
  go_wp2_with fail
  refine (awake_calls _).mono ?_
  rintro e wa ⟨rfl, hb⟩
  have HB := Lib.hid hb
  clear hb
  go_wp2_with fail
  refine (new_calls _).mono ?_
  rintro e w1 ⟨B, fp, rfl, hn1, hf1⟩
  have HN1 := Lib.hid hn1
  have HF1 := Lib.hid hf1
  clear hn1 hf1
  go_wp2_with fail
  go_loopw [6] (fun i wr => ∃ k : Nat, k ≤ 256 + m ∧ i = .int .i64 k ∧ ∃ fq, NetAt wr fq B ⟨sends a1 (min k 256), [], min k 256, 0⟩ ∧ Fr wa wr [] fq) (fun i _ => 256 + m - (intOf i).toNat)
  case atStart => exact ⟨0, by omega, rfl, fp, HN1.out, HF1.out⟩
  case round =>
    obtain ⟨k, hk, rfl, fq, hnk, hfk⟩ := hrel
    have HNK := Lib.hid hnk
    have HFK := Lib.hid hfk
    clear hnk hfk HN1 HF1
    by_cases hlt : k < 256 + m
    · by_cases hlo : k < 256
      · have hmin : min k 256 = k := by omega
        have HMIN := Lib.hid hmin
        clear hmin
        have hbk : ((k : Int) < 256) := by omega
        go_wp2_with fail
        refine (send_calls fq B _ _ ⟨(k : Int), 1, a1⟩ HNK.out (by simp; omega) (by simp [sends_length]; omega)).mono ?_
        rintro e w3 ⟨fp3, rfl, hn3, hf3⟩
        have HN3 := Lib.hid hn3
        have HF3 := Lib.hid (HFK.out.trans hf3)
        clear hn3 hf3
        go_wp2_with fail
        go_roundw
        case rel =>
          refine ⟨k + 1, by omega, by go_num, fp3, ?_, HF3.out⟩
          have h := HN3.out
          rw [HMIN.out] at h
          rw [show min (k + 1) 256 = k + 1 by omega, sends_succ]
          exact h
        case measure => simp [intOf]; omega
      · have hmin : min k 256 = 256 := by omega
        have HMIN := Lib.hid hmin
        clear hmin
        go_wp2_with fail
        refine (send_full fq B _ _ ⟨(k : Int), 1, a1⟩ HNK.out (by simp [sends_length]; omega)).mono ?_
        rintro e w3 ⟨rfl, rfl⟩
        go_wp2_with fail
        go_roundw
        case rel => exact ⟨k + 1, by omega, by go_num, fq, by rw [show min (k + 1) 256 = min k 256 by omega]; exact HNK.out, HFK.out⟩
        case measure => simp [intOf]; omega
    · obtain rfl : k = 256 + m := by omega
      have HN4 : Hid (NetAt wr fq B ⟨sends a1 256, [], 256, 0⟩) := by
        have := HNK.out
        rw [show min (256 + m) 256 = 256 by omega] at this
        exact this
      clear HNK
      go_wp2_with fail
      refine (double_full fq B _ _ 3 HN4.out (by simp [sends_length]) (by simp [sends_length])).mono ?_
      rintro e w5 ⟨rfl, hb5⟩
      have HN5 := Lib.hid (NetAt.below HN4.out hb5)
      have HF5 := Lib.hid (HFK.out.trans (Fr.of_below hb5 fq))
      clear hb5
      go_wp2_with fail
      refine (len_calls _ _ _ _ HN5.out).mono ?_
      rintro e w' ⟨rfl, rfl⟩
      rw [show (sends a1 256).length = 256 from sends_length _ _]
      go_wp2_with fail
      refine (sent_calls _ _ _ _ HN5.out).mono ?_
      rintro e w' ⟨rfl, rfl⟩
      go_wp2_with fail
      refine (lose_yes fq B _ _ m HN5.out (by simp [sends_length]; omega)).mono ?_
      rintro e w6 ⟨f6, rfl, hn6, hf6⟩
      have hE : ((sends a1 256).eraseIdx m).length = 255 := by rw [List.length_eraseIdx_of_lt (by rw [sends_length]; omega), sends_length]
      have HF6 := Lib.hid (HF5.out.trans hf6)
      clear hf6
      simp only at hn6
      generalize (sends a1 256).eraseIdx m = E at hE hn6
      have HN6 := Lib.hid hn6
      have HE := Lib.hid hE
      clear hn6 hE
      go_wp2_with fail
      refine (double_yes f6 B _ _ 0 HN6.out (by rw [HE.out]; omega) (by rw [HE.out]; omega)).mono ?_
      rintro e w7 ⟨f7, rfl, hn7, hf7⟩
      have h255 : (E ++ [E.getD 0 Pk.zero]).getD 255 Pk.zero = E.getD 0 Pk.zero := by
        rw [List.getD_eq_getElem?_getD, List.getElem?_append_right (by rw [HE.out]; omega), HE.out]; rfl
      have h0 : (E ++ [E.getD 0 Pk.zero]).getD 0 Pk.zero = E.getD 0 Pk.zero := by
        rw [List.getD_eq_getElem?_getD, List.getElem?_append_left (by rw [HE.out]; omega), ← List.getD_eq_getElem?_getD]
      have hL : (E ++ [E.getD 0 Pk.zero]).length = 256 := by rw [List.length_append, HE.out]; rfl
      have HF7 := Lib.hid (HF6.out.trans hf7)
      clear hf7
      simp only at hn7
      generalize E.getD 0 Pk.zero = x at h255 h0 hL hn7
      generalize E ++ [x] = L at h255 h0 hL hn7
      have HN7 := Lib.hid hn7
      have HL := Lib.hid hL
      have H255 := Lib.hid h255
      have H0 := Lib.hid h0
      clear hn7 hL h255 h0
      go_wp2_with fail
      refine (len_calls _ _ _ _ HN7.out).mono ?_
      rintro e w' ⟨rfl, rfl⟩
      rw [show L.length = 256 from HL.out]
      go_wp2_with fail
      refine (look_yes f7 B _ _ 255 HN7.out (by rw [HL.out]; omega)).mono ?_
      rintro e w8 ⟨rfl, hb8⟩
      rw [show L.getD 255 Pk.zero = x from H255.out]
      have HN8 := Lib.hid (NetAt.below HN7.out (hb8.alloc hb8.size (.cells #[.int .i64 x.src, .int .i64 x.dst, .string x.txt] 40)))
      have HF8 := Lib.hid (HF7.out.trans (Fr.of_below (hb8.alloc hb8.size (.cells #[.int .i64 x.src, .int .i64 x.dst, .string x.txt] 40)) f7))
      clear hb8
      unfold Pk.val
      go_wp2_with fail
      refine (look_yes f7 B _ _ 0 HN8.out (by rw [HL.out]; omega)).mono ?_
      rintro e w9 ⟨rfl, hb9⟩
      rw [show L.getD 0 Pk.zero = x from H0.out]
      have hc8 := box3 ((hb9.block w8.heap.size (by simp)).trans (heap_alloc_new w8 _))
      obtain ⟨q0, q1, q2, qf⟩ := hc8
      have HF9 := Lib.hid (HF8.out.trans (Fr.of_below hb9 f7))
      have hsz9 := hb9.size
      have hlt9 : w8.heap.size < w9.heap.size := by simp at hsz9; omega
      clear hb9 hsz9
      unfold Pk.val
      go_wp2_with fail
      go_ret
      exact ⟨rfl, HB.out.trans (((HF9.out.below (Nat.le_refl _) (by simp)).alloc HF9.out.size _).mono HB.out.size)⟩

/-! ### The row's step (as the guide's shell writes it, with 'Below') -/
set_option maxRecDepth 100000 in
theorem lifted (os : Os) (started : os.Started) (H : Type) (enc : TypeId × Value → H) :
    ReturnsInHanded {} Try.checked os 8 .any (Rows.netFullSpec.pre6 enc Try.prog Try.f8 Rows.netFullRow.domain false) (Rows.netFullSpec.post enc Try.prog Try.f8 false true false false) := by
  refine returnsInHanded_of_change (C := Try.checked) own started (by kernel_rfl) Try.func8
    (ChangeSpec.witness6 (enc := enc) (C := Try.checked) false ⟨#[], #[.int .u8 0, .string ByteArray.empty], []⟩ 8 (by kernel_rfl) (by kernel_rfl) (by kernel_rfl) (by kernel_rfl)) ?_
  intro W base args ds gs before hval0 hW hcnd _
  have hval : ∀ (j : Nat) t v, Try.f8.params[j]? = some t → args[j]? = some v → Value.okWide Try.prog W .any base t v := hval0
  have hW' := hW
  obtain ⟨p, q, hA0, hV, rfl, hfz, hnd⟩ := hW
  have hA : DataW.TrodAll enc Try.prog W 0 (fun _ => true) true Try.f8.params.toList args.toList ds p := hA0
  rw [Try.params8] at hA hval
  obtain ⟨v0, vs0, d0, ds0, p0, q0, hargs, rfl, rfl, h0, r0⟩ := trodAll_cons hA
  obtain ⟨v1, vs1, d1, ds1, p1, q1, rfl, rfl, rfl, h1, r1⟩ := trodAll_cons r0
  obtain ⟨rfl, rfl, rfl⟩ := trodAll_nil r1
  obtain rfl : args = #[v0, v1] := by cases args; simp_all
  obtain ⟨rfl, rfl⟩ := trodVars_none hV
  obtain ⟨a0, rfl, rfl, rfl, w0⟩ := open_int Try.underlying5 (hval 0 5 v0 rfl rfl) h0
  obtain ⟨a1, rfl, rfl, rfl, w1⟩ := open_string Try.underlying9 (hval 1 9 v1 rfl rfl) h1
  clear hA0 hval0
  simp only [List.append_nil] at hW'
  refine (walk a0 a1 w0 w1 W).mono fun e W' ⟨he, bel⟩ => ?_
  subst he
  exact ⟨_, rfl, _, _, _, [], _, [], hW', trodAll_mk1 (shut_bool Try.underlying4 _), (trodAll_cons_mk (shut_int Try.underlying5 w0) (trodAll_cons_mk (shut_string Try.underlying9 w1) trodAll_mk0)), rfl, bel.frame _, fun h => by cases h⟩

theorem over : Rows.netFullRow.holds Try.pinned (OpenSpec.ofChange Rows.netFullSpec) :=
  OpenClaim.holds_of_wide 8 Try.f8 rfl rfl rfl rfl rfl rfl rfl ⟨rfl, rfl, rfl, rfl, rfl⟩ rfl rfl rfl rfl rfl (by kernel_rfl) Try.func8 (by kernel_rfl)
    (of_decide_eq_true (by kernel_rfl)) (by unfold Func.isWrapper; first | (rw [if_pos (by decide +kernel)]; kernel_rfl) | (rw [if_neg (by decide +kernel)]; exact ⟨rfl, rfl⟩))
    (fun os started H enc _ => lifted os started H enc)

/-- The statement. -/
theorem proved : Rows.NetFullSaid :=
  over
#print axioms proved
end Go.Proofs.Ytjeiakfdjbnkaaa.netFull

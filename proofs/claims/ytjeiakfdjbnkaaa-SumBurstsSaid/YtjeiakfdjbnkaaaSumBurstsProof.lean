/-
  For every byte slice, place and pattern the law SumBursts returns true (bits turned within 32 that follow one another make another checksum). No condition.
-/
import Derived.Test.YtjeiakfdjbnkaaaTurnWalk
import Derived.WalkKit
import Derived.ProofKit
import Derived.OpenShut
import Derived.ShutString
import Derived.ChangeOld
import Derived.Below
namespace Go.Proofs.Ytjeiakfdjbnkaaa.sumBursts
open Go.ChangeShapes Go.WideShapes Go.ChangeAt Go.RowKit
open Go.ChangeMaps (open_string shut_string)
set_option linter.unusedVariables false

theorem own : ownKnob Try.prog.godebug = none := by kernel_rfl
theorem laidOut : laidOutB Try.prog = true := by kernel_rfl

theorem or_one (a2 : Int) (h : (Lit.int .u32 a2).wf = true) : ∃ p : BitVec 32, bits .or .u32 a2 1 = U p ∧ p.getLsbD 0 = true := by
  refine ⟨BitVec.ofInt 32 a2 ||| 1#32, ?_, by simp⟩
  show IntKind.u32.wrap ((BitVec.ofInt 32 a2 ||| BitVec.ofInt 32 1).toNat : Int) = _
  rw [show BitVec.ofInt 32 1 = 1#32 by decide, wrap_U]

theorem bne_true {a b : BitVec 32} (h : a ≠ b) : (U a != U b) = true := by
  have : U a ≠ U b := fun e => h (U_inj e)
  simp [this]
/-! ### The walk: the Go text returns true and writes nothing that was there. -/
set_option maxHeartbeats 800000 in
theorem walk (a0 : Option Addr) (len0 cap0 : Nat) (z0 : List Int) (a1 : Int) (a2 : Int) (w : World) (w0 : IsRow .u8 w a0 len0 cap0 z0) (w1 : (Lit.int .i64 a1).wf = true) (w2 : (Lit.int .u32 a2).wf = true) :
    Calls Try.prog 6 #[.slice a0 len0 cap0, .int .i64 a1, .int .u32 a2] w fun e w' => e = .returned (.bool true) ∧ Below w.heap.size w w' := by
  have hB := w0.bytes
  obtain ⟨_, hlc, hcm, _, _⟩ := w0.cells
  generalize z0.take len0 = bs at hB
  clear w0
  unfold maxLen at hcm
  have HB := Lib.hid hB
  clear hB
  obtain ⟨p, hp, hp0⟩ := or_one a2 w2
  have HP0 := Lib.hid hp0
  clear hp0
  go_enter Try.func6, Try.ntmps6
  go_wp2_with fail
  refine (awake_calls _).mono ?_
  rintro e wa ⟨rfl, hb⟩
  have HB1 := Lib.hid (HB.out.below hb)
  clear HB
  by_cases hbig : 100000 < len0
  · go_wp2_with fail
    go_ret
    exact ⟨rfl, hb⟩
  · by_cases hneg : a1 < 0
    · go_wp2_with fail
      go_ret
      exact ⟨rfl, hb⟩
    · by_cases hend : 8 * (len0 : Int) ≤ a1
      · go_wp2_with fail
        go_ret
        exact ⟨rfl, hb⟩
      · obtain ⟨i, rfl⟩ : ∃ i : Nat, a1 = i := ⟨a1.toNat, by omega⟩
        obtain ⟨b, off, ha, hcs⟩ := HB1.out.2.2.2.resolve_left (by omega)
        subst ha
        clear hcs
        go_wp2_with fail
        refine (turn_calls b off len0 cap0 i bs p wa HB1.out (by omega) (by omega)).mono ?_
        rintro e w4 ⟨g, c, ys, rfl, hT, hby, hbel⟩
        have HNE := Lib.hid (bne_true (Crc.turned_ne hT HB1.out.2.2.1 HP0.out (by rw [HB1.out.1]; omega) 0#32))
        have HB4 := Lib.hid hby
        have HB5 := Lib.hid (HB1.out.below hbel)
        have HEND := Lib.hid (hb.trans (hbel.mono hb.size))
        clear hT hby hbel
        go_wp2_with fail
        refine (of_calls _ _ _ _ _ HB4.out).mono ?_
        rintro e w5 ⟨rfl, rfl⟩
        go_wp2_with fail
        refine (of_calls _ _ _ _ _ HB5.out).mono ?_
        rintro e w5 ⟨rfl, rfl⟩
        go_wp2_with fail
        go_ret
        exact ⟨ret_bool HNE.out, HEND.out⟩

/-! ### The row's step (as the guide's shell writes it) -/
set_option maxRecDepth 100000 in
theorem lifted (os : Os) (started : os.Started) (H : Type) (enc : TypeId × Value → H) :
    ReturnsInHanded {} Try.checked os 6 .any (Rows.sumBurstsSpec.pre6 enc Try.prog Try.f6 Rows.sumBurstsRow.domain false) (Rows.sumBurstsSpec.post enc Try.prog Try.f6 false true false false) := by
  refine returnsInHanded_of_change (C := Try.checked) own started (by kernel_rfl) Try.func6
    (ChangeSpec.witness6 (enc := enc) (C := Try.checked) false ⟨#[], #[.slice none 0 0, .int .i64 0, .int .u32 0], []⟩ 8 (by kernel_rfl) (by kernel_rfl) (by kernel_rfl) (by kernel_rfl)) ?_
  intro W base args ds gs before hval0 hW hcnd _
  have hval : ∀ (j : Nat) t v, Try.f6.params[j]? = some t → args[j]? = some v → Value.okWide Try.prog W .any base t v := hval0
  have hW' := hW
  obtain ⟨p, q, hA0, hV, rfl, hfz, hnd⟩ := hW
  have hA : DataW.TrodAll enc Try.prog W 0 (fun _ => true) true Try.f6.params.toList args.toList ds p := hA0
  rw [Try.params6] at hA hval
  obtain ⟨v0, vs0, d0, ds0, p0, q0, hargs, rfl, rfl, h0, r0⟩ := trodAll_cons hA
  obtain ⟨v1, vs1, d1, ds1, p1, q1, rfl, rfl, rfl, h1, r1⟩ := trodAll_cons r0
  obtain ⟨v2, vs2, d2, ds2, p2, q2, rfl, rfl, rfl, h2, r2⟩ := trodAll_cons r1
  obtain ⟨rfl, rfl, rfl⟩ := trodAll_nil r2
  obtain rfl : args = #[v0, v1, v2] := by cases args; simp_all
  obtain ⟨rfl, rfl⟩ := trodVars_none hV
  obtain ⟨a0, len0, cap0, rfl⟩ := okWide_slice Try.underlying22 (hval 0 22 v0 rfl rfl)
  have k0 := h0
  have lt0 : ∀ x ∈ p0, x.block < W.heap.size := by obtain ⟨m, hm⟩ := k0; exact DataW.trod_lt m _ _ _ hm
  obtain ⟨z0, w0⟩ : ∃ zs, IsRow .u8 W a0 len0 cap0 zs := by
    obtain ⟨fuel, hf⟩ := h0
    rcases open_ints Try.underlying22 Try.underlying5 (by kernel_rfl) hf with ⟨hcs, _⟩ | ⟨x, l, c, zs, hcs, _, hl, hm, hz, _, hcell, hwz⟩
    · simp [Value.cells] at hcs
      obtain ⟨rfl, rfl, rfl⟩ := hcs
      exact ⟨[], .inl ⟨rfl, rfl, rfl, rfl⟩⟩
    · simp [Value.cells] at hcs
      obtain ⟨rfl, rfl, rfl⟩ := hcs
      exact ⟨zs, .inr ⟨_, rfl, hl, hm, by simpa using hz, hcell, hwz⟩⟩
  obtain ⟨a1, rfl, rfl, rfl, w1⟩ := open_int Try.underlying3 (hval 1 3 v1 rfl rfl) h1
  obtain ⟨a2, rfl, rfl, rfl, w2⟩ := open_int Try.underlying24 (hval 2 24 v2 rfl rfl) h2
  clear hA0 hval0
  refine (walk a0 len0 cap0 z0 a1 a2 W w0 w1 w2).mono fun e W' ⟨he, bel⟩ => ?_
  subst he
  exact ⟨_, rfl, _, _, _, [], _, [], hW', trodAll_mk1 (shut_bool Try.underlying4 _), (trodAll_cons_mk (Below.trod laidOut (by kernel_rfl) (of_decide_eq_true (by kernel_rfl)) k0 bel lt0) (trodAll_cons_mk (shut_int Try.underlying3 w1) (trodAll_cons_mk (shut_int Try.underlying24 w2) trodAll_mk0))), rfl, bel.frame _, fun h => by cases h⟩

theorem over : Rows.sumBurstsRow.holds Try.pinned (OpenSpec.ofChange Rows.sumBurstsSpec) :=
  OpenClaim.holds_of_wide 6 Try.f6 rfl rfl rfl rfl rfl rfl rfl ⟨rfl, rfl, rfl, rfl, rfl⟩ rfl rfl rfl rfl rfl (by kernel_rfl) Try.func6 (by kernel_rfl)
    (of_decide_eq_true (by kernel_rfl)) (by unfold Func.isWrapper; first | (rw [if_pos (by decide +kernel)]; kernel_rfl) | (rw [if_neg (by decide +kernel)]; exact ⟨rfl, rfl⟩))
    (fun os started H enc _ => lifted os started H enc)

/-- The statement. -/
theorem proved : Rows.SumBurstsSaid := over
#print axioms proved
end Go.Proofs.Ytjeiakfdjbnkaaa.sumBursts

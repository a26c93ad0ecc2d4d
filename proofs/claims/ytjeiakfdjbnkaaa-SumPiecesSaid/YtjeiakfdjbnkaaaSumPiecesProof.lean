/-
  For every byte slice and every list of cuts the law SumPieces returns true (the checksum of the pieces, one behind the other, is that of the whole). No condition.
-/
import Derived.Test.YtjeiakfdjbnkaaaSumWalks
import Derived.WalkKit
import Derived.ProofKit
import Derived.OpenShut
import Derived.ShutString
import Derived.ChangeOld
import Derived.Below
namespace Go.Proofs.Ytjeiakfdjbnkaaa.sumPieces
open Go.ChangeShapes Go.WideShapes Go.ChangeAt Go.RowKit
open Go.ChangeMaps (open_string shut_string)
set_option linter.unusedVariables false

theorem own : ownKnob Try.prog.godebug = none := by kernel_rfl
theorem laidOut : laidOutB Try.prog = true := by kernel_rfl

theorem step_sum (bs : List Int) (s t : Nat) (hst : s ≤ t) :
    Crc.mor (Crc.mor 0#32 (bs.take s)) ((bs.drop s).take (t - s)) = Crc.mor 0#32 (bs.take t) := by
  rw [← Crc.mor_append]
  congr 1
  have : t = s + (t - s) := by omega
  rw [this, List.take_add]; simp

theorem last_sum (bs : List Int) (s : Nat) : Crc.mor (Crc.mor 0#32 (bs.take s)) (bs.drop s) = Crc.mor 0#32 bs := by
  rw [← Crc.mor_append, List.take_append_drop]

/-! ### The walk: the Go text returns true and writes nothing that was there. -/
set_option maxHeartbeats 800000 in
theorem walk (a0 : Option Addr) (len0 cap0 : Nat) (z0 : List Int) (a1 : Option Addr) (len1 cap1 : Nat) (z1 : List Int) (w : World) (w0 : IsRow .u8 w a0 len0 cap0 z0) (w1 : IsRow .i64 w a1 len1 cap1 z1) :
    Calls Try.prog 5 #[.slice a0 len0 cap0, .slice a1 len1 cap1] w fun e w' => e = .returned (.bool true) ∧ Below w.heap.size w w' := by
  have hB := w0.bytes
  obtain ⟨_, hlc, hcm, _, _⟩ := w0.cells
  obtain ⟨hz1, hl1, hc1m, _, hcells1⟩ := w1.cells
  generalize z0.take len0 = bs at hB
  generalize z1.take len1 = cs at hz1 hcells1
  clear w0 w1
  unfold maxLen at hcm hc1m
  have HB := Lib.hid hB
  clear hB
  have HC := Lib.hid hcells1
  clear hcells1
  have HZ := Lib.hid hz1
  clear hz1
  go_enter Try.func5, Try.ntmps5
  go_wp2_with fail
  refine (awake_calls _).mono ?_
  rintro e wa ⟨rfl, hb⟩
  have HB1 := Lib.hid (HB.out.below hb)
  have HC1 : Hid (len1 = 0 ∨ ∃ b off, a1 = some ⟨b, off, none⟩ ∧ ∀ i, i < len1 → wa.cell? ⟨b, off + i, none⟩ = some (.int .i64 (cs.getD i 0))) :=
    HC.out.imp id fun ⟨b, off, ha, hc⟩ => ⟨b, off, ha, fun i hi => cell_below hb (hc i hi)⟩
  clear HB HC
  by_cases hbig : 100000 < len0
  · go_wp2_with fail
    go_ret
    exact ⟨rfl, hb⟩
  · go_wp2_with fail
    go_loop [5, 6, 16] (fun s p i => ∃ k at' : Nat, k ≤ len1 ∧ at' ≤ len0 ∧ (at' = 0 ∨ at' < len0) ∧ i = .int .i64 k ∧ p = .int .i64 at' ∧ s = .int .u32 (U (Crc.mor 0#32 (bs.take at')))) (fun _ _ i => len1 - (intOf i).toNat)
    case atStart => exact ⟨0, 0, by omega, by omega, .inl rfl, rfl, rfl, mor_start bs⟩
    case round =>
      obtain ⟨k, at', hk, hat, hat2, rfl, rfl, rfl⟩ := hrel
      by_cases hlt : k < len1
      · obtain ⟨b1, off1, ha1, hcs⟩ : ∃ b off, a1 = some ⟨b, off, none⟩ ∧ ∀ i, i < len1 → wa.cell? ⟨b, off + i, none⟩ = some (.int .i64 (cs.getD i 0)) := HC1.out.resolve_left (by omega)
        subst ha1
        have hc := hcs k hlt
        clear hcs
        generalize cs.getD k 0 = c at hc
        by_cases hcut : at' < c ∧ c < len0
        · obtain ⟨hcut1, hcut2⟩ := hcut
          obtain ⟨t, rfl⟩ : ∃ t : Nat, c = t := ⟨c.toNat, by omega⟩
          go_wp2_with fail
          have HS := Lib.hid (step_sum bs at' t (by omega))
          refine (more_calls _ _ _ _ _ _ (HB1.out.piece at' t (by omega) (by omega))).mono ?_
          rintro e w' ⟨rfl, rfl⟩
          rw [HS.out]
          go_wp2_with fail
          go_round
          case rel => exact ⟨k + 1, t, by omega, by omega, by omega, by go_num, rfl, rfl⟩
          case measure => simp [intOf]; omega
        · by_cases hcut1 : at' < c
          · have hcut2 : ¬ c < len0 := fun h => hcut ⟨hcut1, h⟩
            clear hcut
            go_wp2_with fail
            go_round
            case rel => exact ⟨k + 1, at', by omega, by omega, hat2, by go_num, rfl, rfl⟩
            case measure => simp [intOf]; omega
          · clear hcut
            go_wp2_with fail
            go_round
            case rel => exact ⟨k + 1, at', by omega, by omega, hat2, by go_num, rfl, rfl⟩
            case measure => simp [intOf]; omega
      · have HL := Lib.hid (last_sum bs at')
        by_cases hcap : cap0 = at'
        · obtain rfl : at' = 0 := by omega
          subst hcap
          obtain rfl : len0 = 0 := by omega
          obtain rfl : bs = [] := List.eq_nil_of_length_eq_zero HB1.out.1
          go_wp2_with fail
          refine (more_calls _ _ _ _ [] _ ⟨rfl, by simp, by simp, .inl rfl⟩).mono ?_
          rintro e w' ⟨rfl, rfl⟩
          go_wp2_with fail
          refine (of_calls _ _ _ [] _ ⟨rfl, by simp, by simp, .inl rfl⟩).mono ?_
          rintro e w' ⟨rfl, rfl⟩
          rw [Crc.mor_nil, Crc.mor_nil]
          go_wp2_with fail
          go_ret
          exact ⟨rfl, hb⟩
        · go_wp2_with fail
          refine (more_calls _ _ _ _ _ _ (HB1.out.rest at' hat)).mono ?_
          rintro e w' ⟨rfl, rfl⟩
          rw [HL.out]
          go_wp2_with fail
          refine (of_calls _ _ _ _ _ HB1.out).mono ?_
          rintro e w' ⟨rfl, rfl⟩
          go_wp2_with fail
          go_ret
          exact ⟨by simp, hb⟩

/-! ### The row's step (as the guide's shell writes it) -/
set_option maxRecDepth 100000 in
theorem lifted (os : Os) (started : os.Started) (H : Type) (enc : TypeId × Value → H) :
    ReturnsInHanded {} Try.checked os 5 .any (Rows.sumPiecesSpec.pre6 enc Try.prog Try.f5 Rows.sumPiecesRow.domain false) (Rows.sumPiecesSpec.post enc Try.prog Try.f5 false true false false) := by
  refine returnsInHanded_of_change (C := Try.checked) own started (by kernel_rfl) Try.func5
    (ChangeSpec.witness6 (enc := enc) (C := Try.checked) false ⟨#[], #[.slice none 0 0, .slice none 0 0], []⟩ 8 (by kernel_rfl) (by kernel_rfl) (by kernel_rfl) (by kernel_rfl)) ?_
  intro W base args ds gs before hval0 hW hcnd _
  have hval : ∀ (j : Nat) t v, Try.f5.params[j]? = some t → args[j]? = some v → Value.okWide Try.prog W .any base t v := hval0
  have hW' := hW
  obtain ⟨p, q, hA0, hV, rfl, hfz, hnd⟩ := hW
  have hA : DataW.TrodAll enc Try.prog W 0 (fun _ => true) true Try.f5.params.toList args.toList ds p := hA0
  rw [Try.params5] at hA hval
  obtain ⟨v0, vs0, d0, ds0, p0, q0, hargs, rfl, rfl, h0, r0⟩ := trodAll_cons hA
  obtain ⟨v1, vs1, d1, ds1, p1, q1, rfl, rfl, rfl, h1, r1⟩ := trodAll_cons r0
  obtain ⟨rfl, rfl, rfl⟩ := trodAll_nil r1
  obtain rfl : args = #[v0, v1] := by cases args; simp_all
  obtain ⟨rfl, rfl⟩ := trodVars_none hV
  obtain ⟨a0, len0, cap0, rfl⟩ := okWide_slice Try.underlying22 (hval 0 22 v0 rfl rfl)
  have k0 := h0
  have lt0 : ∀ x ∈ p0, x.block < W.heap.size := by obtain ⟨m, hm⟩ := k0; exact DataW.trod_lt m _ _ _ hm
  obtain ⟨z0, w0⟩ : ∃ zs, IsRow .u8 W a0 len0 cap0 zs := by
    obtain ⟨fuel, hf⟩ := h0
    rcases open_ints Try.underlying22 Try.underlying5 (by kernel_rfl) hf with ⟨hcs, _⟩ | ⟨x, l, c, zs, hcs, _, hl, hm, hz, _, hcell, hwz⟩
    · simp [Value.cells] at hcs
      obtain ⟨rfl, rfl, rfl⟩ := hcs
      exact ⟨[], .inl ⟨rfl, rfl, rfl, rfl⟩⟩
    · simp [Value.cells] at hcs
      obtain ⟨rfl, rfl, rfl⟩ := hcs
      exact ⟨zs, .inr ⟨_, rfl, hl, hm, by simpa using hz, hcell, hwz⟩⟩
  obtain ⟨a1, len1, cap1, rfl⟩ := okWide_slice Try.underlying29 (hval 1 29 v1 rfl rfl)
  have k1 := h1
  have lt1 : ∀ x ∈ p1, x.block < W.heap.size := by obtain ⟨m, hm⟩ := k1; exact DataW.trod_lt m _ _ _ hm
  obtain ⟨z1, w1⟩ : ∃ zs, IsRow .i64 W a1 len1 cap1 zs := by
    obtain ⟨fuel, hf⟩ := h1
    rcases open_ints Try.underlying29 Try.underlying3 (by kernel_rfl) hf with ⟨hcs, _⟩ | ⟨x, l, c, zs, hcs, _, hl, hm, hz, _, hcell, hwz⟩
    · simp [Value.cells] at hcs
      obtain ⟨rfl, rfl, rfl⟩ := hcs
      exact ⟨[], .inl ⟨rfl, rfl, rfl, rfl⟩⟩
    · simp [Value.cells] at hcs
      obtain ⟨rfl, rfl, rfl⟩ := hcs
      exact ⟨zs, .inr ⟨_, rfl, hl, hm, by simpa using hz, hcell, hwz⟩⟩
  clear hA0 hval0
  refine (walk a0 len0 cap0 z0 a1 len1 cap1 z1 W w0 w1).mono fun e W' ⟨he, bel⟩ => ?_
  subst he
  exact ⟨_, rfl, _, _, _, [], _, [], hW', trodAll_mk1 (shut_bool Try.underlying4 _), (trodAll_cons_mk (Below.trod laidOut (by kernel_rfl) (of_decide_eq_true (by kernel_rfl)) k0 bel lt0) (trodAll_cons_mk (Below.trod laidOut (by kernel_rfl) (of_decide_eq_true (by kernel_rfl)) k1 bel lt1) trodAll_mk0)), rfl, bel.frame _, fun h => by cases h⟩

theorem over : Rows.sumPiecesRow.holds Try.pinned (OpenSpec.ofChange Rows.sumPiecesSpec) :=
  OpenClaim.holds_of_wide 5 Try.f5 rfl rfl rfl rfl rfl rfl rfl ⟨rfl, rfl, rfl, rfl, rfl⟩ rfl rfl rfl rfl rfl (by kernel_rfl) Try.func5 (by kernel_rfl)
    (of_decide_eq_true (by kernel_rfl)) (by unfold Func.isWrapper; first | (rw [if_pos (by decide +kernel)]; kernel_rfl) | (rw [if_neg (by decide +kernel)]; exact ⟨rfl, rfl⟩))
    (fun os started H enc _ => lifted os started H enc)

/-- The statement. -/
theorem proved : Rows.SumPiecesSaid := over
#print axioms proved
end Go.Proofs.Ytjeiakfdjbnkaaa.sumPieces

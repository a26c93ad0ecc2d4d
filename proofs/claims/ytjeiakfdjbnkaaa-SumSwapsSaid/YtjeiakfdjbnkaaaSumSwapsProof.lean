/-
  For every byte slice and place the law SumSwaps returns true (two neighbours exchanged make another checksum just where they differ). No condition.
-/
import Derived.Test.YtjeiakfdjbnkaaaSumWalks
import Derived.BigRegion
import Derived.BigQuiet
import Derived.WalkSmall
import Derived.WalkKit
import Derived.ProofKit
import Derived.OpenShut
import Derived.ShutString
import Derived.ChangeOld
import Derived.Below
namespace Go.Proofs.Ytjeiakfdjbnkaaa.sumSwaps
open Go.ChangeShapes Go.WideShapes Go.ChangeAt Go.RowKit
open Go.ChangeMaps (open_string shut_string)
set_option linter.unusedVariables false

theorem own : ownKnob Try.prog.godebug = none := by kernel_rfl
theorem laidOut : laidOutB Try.prog = true := by kernel_rfl

theorem info5 : (Try.prog.info? 5).map (fun i => (i.zero, i.size, i.bytes)) = some (some (.int .u8 0), 1, 1) := by kernel_rfl
/-! ### The walk: the Go text returns true and writes nothing that was there. -/
set_option maxHeartbeats 800000 in
theorem walk (a0 : Option Addr) (len0 cap0 : Nat) (z0 : List Int) (a1 : Int) (w : World) (w0 : IsRow .u8 w a0 len0 cap0 z0) (w1 : (Lit.int .i64 a1).wf = true) :
    Calls Try.prog 7 #[.slice a0 len0 cap0, .int .i64 a1] w fun e w' => e = .returned (.bool true) ∧ Below w.heap.size w w' := by
  have hB := w0.bytes
  obtain ⟨_, hlc, hcm, _, _⟩ := w0.cells
  generalize z0.take len0 = bs at hB
  clear w0
  unfold maxLen at hcm
  have HB := Lib.hid hB
  clear hB
  obtain ⟨i0, hi, hz0, hz1, hz2⟩ := info_parts info5
  go_enter Try.func7, Try.ntmps7
  go_wp2_with fail
  refine (awake_calls _).mono ?_
  rintro e wa ⟨rfl, hb⟩
  have HB1 := Lib.hid (HB.out.below hb)
  clear HB
  by_cases hbig : 100000 < len0
  · go_wp2_with fail
    go_ret
    exact ⟨rfl, hb⟩
  · by_cases hneg : a1 < 0
    · go_wp2_with fail
      go_ret
      exact ⟨rfl, hb⟩
    · by_cases hend : (len0 : Int) - 1 ≤ a1
      · go_wp2_with fail
        go_ret
        exact ⟨rfl, hb⟩
      · obtain ⟨i, rfl⟩ : ∃ i : Nat, a1 = i := ⟨a1.toNat, by omega⟩
        obtain ⟨b, off, ha, hcs⟩ := HB1.out.2.2.2.resolve_left (by omega)
        subst ha
        have HCS := Lib.hid hcs
        clear hcs
        have hlen := HB1.out.1
        have HLEN := Lib.hid hlen
        clear hlen
        have hown0 := World.ownsRow_made (base := wa.heap.size) (e := 5) (size := 1) wa #[] 0 (Nat.le_refl _) (by simp [maxLen]) rfl
        go_wp2_with (at_builtin; go_loud (refine wpList_append_lies _ rfl (.tmp 22) (.tmp 23) 22 rfl wa.heap.size 5 i0 (.int .u8 0) 1 1 Try.underlying22 hi hz0 hz1 hz2 rfl (by decide) _ 0 [] rfl hown0 ⟨b, off, none⟩ len0 cap0 (bs.map (Value.int .u8)) rfl ?c1 ?c2 ?c3 ?c4 ?c5 ?c6 ?c7 _ rfl ?c8))
        case c1 => rw [List.length_map, HLEN.out, Nat.mul_one]
        case c2 =>
          intro j u hu
          rw [List.getElem?_map] at hu
          obtain ⟨z, hz, rfl⟩ := Option.map_eq_some_iff.1 hu
          have hj : j < len0 := by rw [← HLEN.out]; exact (List.getElem?_eq_some_iff.1 hz).1
          rw [Addr.add_lit, Lib.cell?_alloc_marked _ (HCS.out j hj), List.getD_eq_getElem?_getD, hz]; rfl
        case c3 =>
          intro u hu
          obtain ⟨z, _, rfl⟩ := List.mem_map.1 hu
          rfl
        case c4 => omega
        case c5 => simp only [maxLen]; omega
        case c6 => omega
        case c7 => simp
        case c8 =>
          intro g cap w3 hown hgrow hat hlt
          have hgb : wa.heap.size ≤ g := by
            obtain ⟨g', cap', h1, h2, h3⟩ := hown.form (by omega)
            cases h1; exact h2
          have hB3 : Below wa.heap.size wa w3 := ((Below.refl _ wa).alloc (Nat.le_refl _) _).grown hgrow (by simp) (by intro k hk; simp [Value.ownBlock] at hk; subst hk; exact Nat.le_refl _)
          have hgx : bs[i]? = some (bs.getD i 0) := by rw [List.getD_eq_getElem?_getD, List.getElem?_eq_getElem (by rw [HLEN.out]; omega)]; rfl
          have hgy : bs[i + 1]? = some (bs.getD (i + 1) 0) := by rw [List.getD_eq_getElem?_getD, List.getElem?_eq_getElem (by rw [HLEN.out]; omega)]; rfl
          have hc1 : w3.cell? ⟨g, i, none⟩ = some (.int .u8 (bs.getD i 0)) := by
            rw [hown.cellAt i (by omega), List.getElem?_map, hgx]; rfl
          have hc2 : w3.cell? ⟨g, i + 1, none⟩ = some (.int .u8 (bs.getD (i + 1) 0)) := by
            rw [hown.cellAt (i + 1) (by omega), List.getElem?_map, hgy]; rfl
          have hf1 := hown.frozenAt i
          have hf2 := hown.frozenAt (i + 1)
          have HEX := Lib.hid (Crc.mor_exchanged 0#32 bs i (by rw [HLEN.out]; omega) HB1.out.2.2.1)
          have HSTO : Hid (((w3.setCell ⟨g, i, none⟩ (.int .u8 (bs.getD (i + 1) 0))).setCell ⟨g, i + 1, none⟩ (.int .u8 (bs.getD i 0))).drew.ownsRow wa.heap.size 5 1
              (.slice (some ⟨g, 0, none⟩) len0 cap) len0 (((bs.set i (bs.getD (i + 1) 0)).set (i + 1) (bs.getD i 0)).map (Value.int .u8))) := by
            rw [List.map_set, List.map_set]
            exact ((hown.stored i _).1.stored (i + 1) _).1.drew
          have HBEL : Hid (Below wa.heap.size wa ((w3.setCell ⟨g, i, none⟩ (.int .u8 (bs.getD (i + 1) 0))).setCell ⟨g, i + 1, none⟩ (.int .u8 (bs.getD i 0))).drew) :=
            ((hB3.setCell (p := ⟨g, i, none⟩) hgb _).setCell (p := ⟨g, i + 1, none⟩) hgb _).drew
          have hwf2 : ∀ z ∈ (bs.set i (bs.getD (i + 1) 0)).set (i + 1) (bs.getD i 0), 0 ≤ z ∧ z ≤ 255 := by
            intro z hz
            rcases List.mem_or_eq_of_mem_set hz with hz | rfl
            · rcases List.mem_or_eq_of_mem_set hz with hz | rfl
              · exact HB1.out.2.2.1 z hz
              · exact HB1.out.2.2.1 _ (List.mem_of_getElem? hgy)
            · exact HB1.out.2.2.1 _ (List.mem_of_getElem? hgx)
          have HWF2 := Lib.hid hwf2
          have HA1 := Lib.hid (HCS.out i (by omega))
          have HA2 := Lib.hid (HCS.out (i + 1) (by omega))
          clear hown hgrow hat hB3 hgx hgy hwf2
          generalize (bs.set i (bs.getD (i + 1) 0)).set (i + 1) (bs.getD i 0) = bs2 at HSTO HWF2 HEX
          generalize bs.getD i 0 = x at hc1 HSTO HBEL HA1 HEX
          generalize bs.getD (i + 1) 0 = y at hc2 HSTO HBEL HA2 HEX
          go_wp2_with fail
          go_region
          go_wp2_with fail
          generalize ((w3.setCell ⟨g, i, none⟩ (.int .u8 y)).setCell ⟨g, i + 1, none⟩ (.int .u8 x)).drew = w4 at HSTO HBEL
          have HB4 := Lib.hid (bytes_of_own HSTO.out (by unfold maxLen; omega) HWF2.out)
          have HB5 := Lib.hid (HB1.out.below HBEL.out)
          have ha1 := cell_below HBEL.out HA1.out
          have ha2 := cell_below HBEL.out HA2.out
          have hend' : Hid (Below w.heap.size w w4) := hb.trans (HBEL.out.mono hb.size)
          clear hc1 hc2 hf1 hf2
          have key : Hid (((U (Crc.mor 0#32 bs2) == U (Crc.mor 0#32 bs)) == (x == y)) = true) := by
            unfold Hid
            rw [U_beq]
            by_cases hxy : x = y
            · have := HEX.out.2 hxy
              simp [hxy, this]
            · have : ¬ Crc.mor 0#32 bs2 = Crc.mor 0#32 bs := fun h => hxy (HEX.out.1 h)
              simp [hxy, this]
          go_quiet ((first | (go_at_call 14; with_reducible exact of_quiet _ _ _ _ w4 _ HB4.out) | (go_at_call 14; with_reducible exact of_quiet _ _ _ _ w4 _ HB5.out)))
          go_wp2_with fail
          go_ret
          exact ⟨ret_bool key.out, below_drewN hend'.out _⟩

/-! ### The row's step (as the guide's shell writes it) -/
set_option maxRecDepth 100000 in
theorem lifted (os : Os) (started : os.Started) (H : Type) (enc : TypeId × Value → H) :
    ReturnsInHanded {} Try.checked os 7 .any (Rows.sumSwapsSpec.pre6 enc Try.prog Try.f7 Rows.sumSwapsRow.domain false) (Rows.sumSwapsSpec.post enc Try.prog Try.f7 false true false false) := by
  refine returnsInHanded_of_change (C := Try.checked) own started (by kernel_rfl) Try.func7
    (ChangeSpec.witness6 (enc := enc) (C := Try.checked) false ⟨#[], #[.slice none 0 0, .int .i64 0], []⟩ 8 (by kernel_rfl) (by kernel_rfl) (by kernel_rfl) (by kernel_rfl)) ?_
  intro W base args ds gs before hval0 hW hcnd _
  have hval : ∀ (j : Nat) t v, Try.f7.params[j]? = some t → args[j]? = some v → Value.okWide Try.prog W .any base t v := hval0
  have hW' := hW
  obtain ⟨p, q, hA0, hV, rfl, hfz, hnd⟩ := hW
  have hA : DataW.TrodAll enc Try.prog W 0 (fun _ => true) true Try.f7.params.toList args.toList ds p := hA0
  rw [Try.params7] at hA hval
  obtain ⟨v0, vs0, d0, ds0, p0, q0, hargs, rfl, rfl, h0, r0⟩ := trodAll_cons hA
  obtain ⟨v1, vs1, d1, ds1, p1, q1, rfl, rfl, rfl, h1, r1⟩ := trodAll_cons r0
  obtain ⟨rfl, rfl, rfl⟩ := trodAll_nil r1
  obtain rfl : args = #[v0, v1] := by cases args; simp_all
  obtain ⟨rfl, rfl⟩ := trodVars_none hV
  obtain ⟨a0, len0, cap0, rfl⟩ := okWide_slice Try.underlying22 (hval 0 22 v0 rfl rfl)
  have k0 := h0
  have lt0 : ∀ x ∈ p0, x.block < W.heap.size := by obtain ⟨m, hm⟩ := k0; exact DataW.trod_lt m _ _ _ hm
  obtain ⟨z0, w0⟩ : ∃ zs, IsRow .u8 W a0 len0 cap0 zs := by
    obtain ⟨fuel, hf⟩ := h0
    rcases open_ints Try.underlying22 Try.underlying5 (by kernel_rfl) hf with ⟨hcs, _⟩ | ⟨x, l, c, zs, hcs, _, hl, hm, hz, _, hcell, hwz⟩
    · simp [Value.cells] at hcs
      obtain ⟨rfl, rfl, rfl⟩ := hcs
      exact ⟨[], .inl ⟨rfl, rfl, rfl, rfl⟩⟩
    · simp [Value.cells] at hcs
      obtain ⟨rfl, rfl, rfl⟩ := hcs
      exact ⟨zs, .inr ⟨_, rfl, hl, hm, by simpa using hz, hcell, hwz⟩⟩
  obtain ⟨a1, rfl, rfl, rfl, w1⟩ := open_int Try.underlying3 (hval 1 3 v1 rfl rfl) h1
  clear hA0 hval0
  refine (walk a0 len0 cap0 z0 a1 W w0 w1).mono fun e W' ⟨he, bel⟩ => ?_
  subst he
  exact ⟨_, rfl, _, _, _, [], _, [], hW', trodAll_mk1 (shut_bool Try.underlying4 _), (trodAll_cons_mk (Below.trod laidOut (by kernel_rfl) (of_decide_eq_true (by kernel_rfl)) k0 bel lt0) (trodAll_cons_mk (shut_int Try.underlying3 w1) trodAll_mk0)), rfl, bel.frame _, fun h => by cases h⟩

theorem over : Rows.sumSwapsRow.holds Try.pinned (OpenSpec.ofChange Rows.sumSwapsSpec) :=
  OpenClaim.holds_of_wide 7 Try.f7 rfl rfl rfl rfl rfl rfl rfl ⟨rfl, rfl, rfl, rfl, rfl⟩ rfl rfl rfl rfl rfl (by kernel_rfl) Try.func7 (by kernel_rfl)
    (of_decide_eq_true (by kernel_rfl)) (by unfold Func.isWrapper; first | (rw [if_pos (by decide +kernel)]; kernel_rfl) | (rw [if_neg (by decide +kernel)]; exact ⟨rfl, rfl⟩))
    (fun os started H enc _ => lifted os started H enc)

/-- The statement. -/
theorem proved : Rows.SumSwapsSaid := over
#print axioms proved
end Go.Proofs.Ytjeiakfdjbnkaaa.sumSwaps

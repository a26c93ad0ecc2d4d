/-
  The walk of the reference's Turn: the bytes that it returns differ from those that came in just at the pattern's bits.
-/
import Derived.Test.YtjeiakfdjbnkaaaSumWalks
import Derived.WalkKit
import Derived.WalkSpells
import Derived.WalkLawsBesides
import Derived.Below
import Derived.Lib.Hide
import Derived.Deep.AppendLies
namespace Go.Proofs.Ytjeiakfdjbnkaaa
open Go.RowKit
set_option linter.unusedVariables false

theorem info5 : (Try.prog.info? 5).map (fun i => (i.zero, i.size, i.bytes)) = some (some (.int .u8 0), 1, 1) := by kernel_rfl

theorem U_rem (q : BitVec 32) : (U q).tmod 2 = if q.getLsbD 0 then 1 else 0 := by
  unfold U
  rw [Int.tmod_eq_emod_of_nonneg (by omega), BitVec.getLsbD, Nat.testBit_zero]
  by_cases h : q.toNat % 2 = 1
  · simp [h]; omega
  · simp [h]; omega

theorem U_quo (q : BitVec 32) : (U q).tdiv (2 : Int) % (4294967296 : Int) = U (q >>> 1) := by
  unfold U
  have := q.isLt
  rw [Int.tdiv_eq_ediv_of_nonneg (by omega), BitVec.toNat_ushiftRight, Nat.shiftRight_eq_div_pow]
  omega

theorem U_bit (p : BitVec 32) (k : Nat) : ((U (p >>> k)).tmod 2 = 1) ↔ p.getLsbD k = true := by
  rw [U_rem, BitVec.getLsbD_ushiftRight, Nat.add_zero]
  cases p.getLsbD k <;> simp

theorem U_next (p : BitVec 32) (k : Nat) : (U (p >>> k)).tdiv (2 : Int) % (4294967296 : Int) = U (p >>> (k + 1)) := by
  rw [U_quo, BitVec.shiftRight_add]

theorem xor_u8 (y : Int) (m : Nat) (hm : m < 8) : bits .xor .u8 y (2 ^ m % 256) = Crc.xb y m := by
  have h : (BitVec.ofInt 8 (2 ^ m % 256)) = BitVec.ofInt 8 (2 ^ m) := by
    apply BitVec.eq_of_toNat_eq
    simp [BitVec.toNat_ofInt]
  show IntKind.u8.wrap ((BitVec.ofInt 8 y ^^^ BitVec.ofInt 8 (2 ^ m % 256)).toNat : Int) = _
  rw [h]
  unfold Crc.xb
  generalize BitVec.ofInt 8 y ^^^ BitVec.ofInt 8 (2 ^ m) = b
  have := b.isLt
  simp only [IntKind.wrap, IntKind.bits, IntKind.signed]
  simp; omega

set_option maxHeartbeats 400000 in
theorem turn_calls (b off : Nat) (len cap pt : Nat) (zs : List Int) (p : BitVec 32) (wa : World) (hb : Bytes wa (some ⟨b, off, none⟩) len zs) (hlen : len ≤ 100000) (hpt : pt < 8 * len) :
    Calls Try.prog 18 #[.slice (some ⟨b, off, none⟩) len cap, .int .i64 pt, .int .u32 (U p)] wa fun e w' => ∃ (g c : Nat) (ys : List Int), e = .returned (.slice (some ⟨g, 0, none⟩) len c) ∧ Crc.Turned zs ys pt p 32 ∧ Bytes w' (some ⟨g, 0, none⟩) len ys ∧ Below wa.heap.size wa w' := by
  obtain ⟨hl, hm, hwf, hcells⟩ := hb
  have HCS : Hid (∀ i, i < len → wa.cell? ⟨b, off + i, none⟩ = some (.int .u8 (zs.getD i 0))) := by
    rcases hcells with h | ⟨b', off', h, hc⟩
    · omega
    · cases h; exact hc
  have HLEN := Lib.hid hl
  have HWF := Lib.hid hwf
  clear hl hwf hcells hm
  obtain ⟨i0, hi, hz0, hz1, hz2⟩ := info_parts info5
  have hown0 := World.ownsRow_made (base := wa.heap.size) (e := 5) (size := 1) wa #[] 0 (Nat.le_refl _) (by simp [maxLen]) rfl
  go_enter Try.func18, Try.ntmps18
  go_wp2_with (at_builtin; go_loud (refine wpList_append_lies _ rfl (.tmp 9) (.tmp 10) 22 rfl wa.heap.size 5 i0 (.int .u8 0) 1 1 Try.underlying22 hi hz0 hz1 hz2 rfl (by decide) _ 0 [] rfl hown0 ⟨b, off, none⟩ len cap (zs.map (Value.int .u8)) rfl ?c1 ?c2 ?c3 ?c4 ?c5 ?c6 ?c7 _ rfl ?c8))
  case c1 => rw [List.length_map, HLEN.out, Nat.mul_one]
  case c2 =>
    intro j u hu
    rw [List.getElem?_map] at hu
    obtain ⟨z, hz, rfl⟩ := Option.map_eq_some_iff.1 hu
    have hj : j < len := by rw [← HLEN.out]; exact (List.getElem?_eq_some_iff.1 hz).1
    rw [Addr.add_lit, Lib.cell?_alloc_marked _ (HCS.out j hj), List.getD_eq_getElem?_getD, hz]; rfl
  case c3 =>
    intro u hu
    obtain ⟨z, _, rfl⟩ := List.mem_map.1 hu
    rfl
  case c4 => omega
  case c5 => simp only [maxLen]; omega
  case c6 => omega
  case c7 => simp
  case c8 =>
    intro g c w3 hown hgrow hat hlt
    have hB3 : Below wa.heap.size wa w3 := ((Below.refl _ wa).alloc (Nat.le_refl _) _).grown hgrow (by simp) (by intro k hk; simp [Value.ownBlock] at hk; subst hk; exact Nat.le_refl _)
    have hgb : wa.heap.size ≤ g := by
      obtain ⟨g', cap', h1, h2, h3⟩ := hown.form (by omega)
      cases h1; exact h2
    have HO := Lib.hid hown
    have HB := Lib.hid hB3
    clear hown hgrow hat hlt hB3 hown0
    go_wp2_with fail
    go_loopw [2, 8] (fun q i wr => ∃ k : Nat, k ≤ 32 ∧ i = .int .i64 k ∧ q = .int .u32 (U (p >>> k)) ∧ ∃ ys : List Int, Crc.Turned zs ys pt p k ∧ wr.ownsRow wa.heap.size 5 1 (.slice (some ⟨g, 0, none⟩) len c) len (ys.map (Value.int .u8)) ∧ Below wa.heap.size wa wr) (fun _ i _ => 32 - (intOf i).toNat)
    case atStart => exact ⟨0, by omega, rfl, by rw [BitVec.ushiftRight_zero], zs, Crc.turned_zero zs pt p HWF.out, HO.out, HB.out⟩
    case round =>
      obtain ⟨k, hk, rfl, rfl, ys, hys, hown, hbel⟩ := hrel
      have hl := hys.1
      rw [HLEN.out] at hl
      have HY := Lib.hid hys
      have HNX := Lib.hid (U_next p k)
      have HBIT := Lib.hid (U_bit p k)
      by_cases hk2 : k < 32
      · by_cases hin : pt + k < 8 * len
        · have hlt8 : (pt + k) / 8 < len := by omega
          have hf := hown.frozenAt ((pt + k) / 8)
          have hc : wr.cell? ⟨g, (pt + k) / 8, none⟩ = some (.int .u8 (ys.getD ((pt + k) / 8) 0)) := by
            rw [hown.cellAt _ (by omega), List.getElem?_map, List.getD_eq_getElem?_getD, List.getElem?_eq_getElem (by omega)]; rfl
          have HS := Lib.hid (hown.stored ((pt + k) / 8) (.int .u8 (Crc.xb (ys.getD ((pt + k) / 8) 0) ((pt + k) % 8)))).1
          have HF := Lib.hid (fun hbit => Crc.turned_flip hys hbit (by rw [HLEN.out]; exact hin))
          have HX := Lib.hid (xor_u8 (ys.getD ((pt + k) / 8) 0) ((pt + k) % 8) (Nat.mod_lt _ (by omega)))
          have HOW := Lib.hid hown
          have HBEL := Lib.hid hbel
          have hgb' : wa.heap.size ≤ g := hgb
          clear hys hown hbel hl
          generalize ys.getD ((pt + k) / 8) 0 = y at hc HS HF HX
          go_wp2_with fail
          · have hb : (U (p >>> k)).tmod 2 = 1 := by assumption
            go_roundw
            case rel =>
              rw [HX.out]
              exact ⟨k + 1, by omega, by go_num, by rw [HNX.out], _, HF.out (HBIT.out.1 hb), by rw [List.map_set]; exact HS.out, HBEL.out.setCell (p := ⟨g, _, none⟩) hgb' _⟩
            case measure => simp [intOf]; omega
          · have hb : ¬ (U (p >>> k)).tmod 2 = 1 := by assumption
            go_roundw
            case rel => exact ⟨k + 1, by omega, by go_num, by rw [HNX.out], ys, Crc.turned_skip HY.out (.inl (by cases h : p.getLsbD k; rfl; exact absurd (HBIT.out.2 h) hb)), HOW.out, HBEL.out⟩
            case measure => simp [intOf]; omega
        · have HOW := Lib.hid hown
          have HBEL := Lib.hid hbel
          clear hys hown hbel hl
          go_wp2_with fail
          all_goals
            go_roundw
            case rel => exact ⟨k + 1, by omega, by go_num, by rw [HNX.out], ys, Crc.turned_skip HY.out (.inr (by rw [HLEN.out]; omega)), HOW.out, HBEL.out⟩
            case measure => simp [intOf]; omega
      · obtain rfl : k = 32 := by omega
        have HOW := Lib.hid hown
        have HBEL := Lib.hid hbel
        clear hys hown hbel hl
        go_wp2_with fail
        go_ret
        refine ⟨g, c, ys, rfl, HY.out, bytes_of_own HOW.out (by unfold maxLen; omega) HY.out.2.1, HBEL.out⟩
end Go.Proofs.Ytjeiakfdjbnkaaa

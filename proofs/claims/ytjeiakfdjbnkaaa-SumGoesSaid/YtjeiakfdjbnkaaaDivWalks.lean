/-
  The walks of the reference's division: bits, divide, Of and More: what they return is the register's own sum.
-/
import Derived.Test.YtjeiakfdjbnkaaaTurnWalk
import Derived.Test.YtjeiakfdjbnkaaaZeros
import Derived.WalkKit
import Derived.WalkSpells
import Derived.WalkLawsBesides
import Derived.Below
import Derived.Lib.Hide
import Derived.Deep.AppendLies
namespace Go.Proofs.Ytjeiakfdjbnkaaa
open Go.RowKit
set_option linter.unusedVariables false

theorem info4 : (Try.prog.info? 4).map (fun i => (i.zero, i.size, i.bytes)) = some (some (.bool false), 1, 1) := by kernel_rfl

theorem lows_take_succ (Z : BitVec 32) (j : Nat) (h : j < 8) : (Crc.lows 8 Z).take (j + 1) = (Crc.lows 8 Z).take j ++ [Z.getLsbD j] := by
  rw [List.take_add_one, Crc.lows_get 8 Z j h]; rfl

theorem U_bit' (Z : BitVec 32) (j : Nat) : ((U (Z >>> j)).tmod 2 == 1) = Z.getLsbD j := by
  have := U_bit Z j
  cases h : Z.getLsbD j
  · rw [h] at this; simpa using this
  · rw [h] at this; simpa using this

theorem U_next8 (Z : BitVec 32) (j : Nat) (h : U Z ≤ 255) : (U (Z >>> j)).tdiv (2 : Int) % (256 : Int) = U (Z >>> (j + 1)) := by
  have h0 : (Z >>> j).toNat ≤ Z.toNat := by
    rw [BitVec.toNat_ushiftRight, Nat.shiftRight_eq_div_pow]
    exact Nat.div_le_self _ _
  rw [BitVec.shiftRight_add]
  unfold U at *
  rw [Int.tdiv_eq_ediv_of_nonneg (by omega), BitVec.toNat_ushiftRight _ 1, Nat.shiftRight_eq_div_pow]
  omega

theorem bits_snoc (zs : List Int) (k : Nat) (h : k < zs.length) : Crc.bitsOf (zs.take (k + 1)) = Crc.bitsOf (zs.take k) ++ Crc.lows 8 (BitVec.ofInt 32 (zs.getD k 0)) := by
  rw [take_snoc' zs k h, Crc.bitsOf_append]; simp [Crc.bitsOf]

set_option maxHeartbeats 800000 in
theorem bits_calls (a : Option Addr) (len cap : Nat) (zs : List Int) (wa : World) (hb : Bytes wa a len zs) (hlen : len ≤ 2000) :
    Calls Try.prog 35 #[.slice a len cap] wa fun e w' => ∃ (g c : Nat), e = .returned (.slice (some ⟨g, 0, none⟩) (8 * len) c) ∧ wa.heap.size ≤ g ∧
      w'.ownsRow wa.heap.size 4 1 (.slice (some ⟨g, 0, none⟩) (8 * len) c) (8 * len) ((Crc.bitsOf zs).map Value.bool) ∧ Below wa.heap.size wa w' := by
  obtain ⟨hl, hm, hwf, hcells⟩ := hb
  have HC := Lib.hid hcells
  have HL := Lib.hid hl
  have HWF := Lib.hid hwf
  clear hcells hl hwf hm
  obtain ⟨i0, hi, hz0, hz1, hz2⟩ := info_parts info4
  go_enter Try.func35, Try.ntmps35
  go_wp2_with fail
  have hb0 : Below wa.heap.size wa (wa.alloc (.cells #[] 4)) := (Below.refl _ wa).alloc (Nat.le_refl _) _
  have hown0 := World.ownsRow_made (base := wa.heap.size) (e := 4) (size := 1) wa #[] 0 (Nat.le_refl _) (by simp [maxLen]) rfl
  go_loopw [3, 10] (fun v i wr => ∃ k : Nat, k ≤ len ∧ i = .int .i64 k ∧ ∃ g c, v = .slice (some ⟨g, 0, none⟩) (8 * k) c ∧ wr.ownsRow wa.heap.size 4 1 (.slice (some ⟨g, 0, none⟩) (8 * k) c) (8 * k) ((Crc.bitsOf (zs.take k)).map Value.bool) ∧ Below wa.heap.size wa wr) (fun _ i _ => len - (intOf i).toNat)
  case atStart => exact ⟨0, by omega, rfl, _, _, rfl, hown0, hb0⟩
  case round =>
    clear hown0 hb0
    obtain ⟨k, hk, rfl, g, c, rfl, hown, hbel⟩ := hrel
    by_cases hlt : k < len
    · obtain ⟨b, off, ha, hcs⟩ := HC.out.resolve_left (by omega)
      subst ha
      have hc : wr.cell? ⟨b, off + k, none⟩ = some (.int .u8 (zs.getD k 0)) := cell_below hbel (hcs k hlt)
      have hzr := HWF.out (zs.getD k 0) (by rw [List.getD_eq_getElem?_getD, List.getElem?_eq_getElem (by rw [HL.out]; exact hlt)]; exact List.getElem_mem _)
      have HSN := Lib.hid (bits_snoc zs k (by rw [HL.out]; exact hlt))
      have hUZ := U_ofInt (zs.getD k 0) hzr.1 (by omega)
      rw [← hUZ] at hc
      clear hUZ hcs
      have HZ : Hid (U (BitVec.ofInt 32 (zs.getD k 0)) ≤ 255) := by unfold Hid; rw [U_ofInt _ hzr.1 (by omega)]; exact hzr.2
      clear hzr
      generalize BitVec.ofInt 32 (zs.getD k 0) = Z at hc HSN HZ
      generalize Crc.bitsOf (zs.take k) = l0 at hown HSN
      have HOW := Lib.hid hown
      have HBE := Lib.hid hbel
      clear hown hbel
      go_wp2_with fail
      go_loopw [3, 5, 6] (fun v q i wr' => ∃ j : Nat, j ≤ 8 ∧ i = .int .i64 j ∧ q = .int .u8 (U (Z >>> j)) ∧ ∃ g c, v = .slice (some ⟨g, 0, none⟩) (8 * k + j) c ∧ wr'.ownsRow wa.heap.size 4 1 (.slice (some ⟨g, 0, none⟩) (8 * k + j) c) (8 * k + j) ((l0 ++ (Crc.lows 8 Z).take j).map Value.bool) ∧ Below wa.heap.size wa wr') (fun _ _ i _ => 8 - (intOf i).toNat)
      case atStart => exact ⟨0, by omega, rfl, by rw [BitVec.ushiftRight_zero], g, c, rfl, by simpa using HOW.out, HBE.out⟩
      case round =>
        clear HOW HBE
        obtain ⟨j, hj, rfl, rfl, g, c, rfl, hown, hbel⟩ := hrel
        by_cases hj8 : j < 8
        · have hbit := U_bit' Z j
          have hnx := U_next8 Z j HZ.out
          have HTS := Lib.hid (lows_take_succ Z j hj8)
          have hbase := hbel.size
          generalize Z.getLsbD j = β at hbit HTS
          have HOW := Lib.hid hown
          have HBE := Lib.hid hbel
          clear hown hbel
          go_wp2_with (at_builtin; go_loud (refine wpList_append_lies _ rfl (.tmp 18) (.tmp 22) 59 rfl wa.heap.size 4 i0 (.bool false) 1 1 Try.underlying59 hi hz0 hz1 hz2 rfl (by decide) _ (8 * k + j) _ rfl (HOW.out.alloc _) ⟨wr.heap.size, 0, none⟩ 1 1 [.bool β] rfl rfl ?c2 ?c3 ?c4 ?c5 ?c6 ?c7 _ rfl ?c8))
          case c2 => exact cell_one_new _ _ _
          case c3 => intro u hu; rw [List.mem_singleton.1 hu]; rfl
          case c4 => omega
          case c5 => simp only [maxLen]; omega
          case c6 => omega
          case c7 => simp; omega
          case c8 =>
            intro g' c' w3 hown' hgrow _ _
            have HBE' : Hid (Below wa.heap.size wa w3) := (HBE.out.alloc hbase _).grown hgrow (by simp; omega) (fun q hq => (HOW.out.lt q hq).1)
            have HOW' := Lib.hid hown'
            clear hown' hgrow
            go_wp2_with fail
            go_roundw
            case rel => exact ⟨j + 1, by omega, by go_num, by rw [hnx], g', c', rfl, by rw [HTS.out]; simpa [Nat.add_assoc] using HOW'.out, HBE'.out⟩
            case measure => simp [intOf]; omega
        · obtain rfl : j = 8 := by omega
          have HOW := Lib.hid hown
          have HBE := Lib.hid hbel
          clear hown hbel
          go_wp2_with fail
          go_roundw
          case rel => exact ⟨k + 1, by omega, by go_num, g, c, by rw [Nat.mul_add], by rw [HSN.out, Nat.mul_add]; have := HOW.out; rw [List.take_of_length_le (by rw [Crc.lows_length]; omega)] at this; exact this, HBE.out⟩
          case measure => simp [intOf]; omega
    · obtain rfl : k = len := by omega
      have HOW := Lib.hid hown
      have HBE := Lib.hid hbel
      clear hown hbel
      go_wp2_with fail
      go_ret
      exact ⟨g, c, rfl, (HOW.out.lt g rfl).1, by have := HOW.out; rwa [List.take_of_length_le (by rw [HL.out]; omega)] at this, HBE.out⟩

/-- The powers' cells, as the literal lays them. -/
def powCells : Array Value := #[.int .i64 26, .int .i64 23, .int .i64 22, .int .i64 16, .int .i64 12, .int .i64 11, .int .i64 10, .int .i64 8, .int .i64 7, .int .i64 5, .int .i64 4, .int .i64 2, .int .i64 1, .int .i64 0]

theorem powCell {w : World} {B : Nat} (h : w.heap[B]? = some (.cells powCells 3 (0, 0))) (t : Nat) (ht : t < 14) : w.cell? ⟨B, t, none⟩ = some (.int .i64 (Crc.powers.getD t 0 : Nat)) := by
  rw [cell_of_row w B t powCells 3 (0, 0) h]
  rcases (by omega : t = 0 ∨ t = 1 ∨ t = 2 ∨ t = 3 ∨ t = 4 ∨ t = 5 ∨ t = 6 ∨ t = 7 ∨ t = 8 ∨ t = 9 ∨ t = 10 ∨ t = 11 ∨ t = 12 ∨ t = 13) with rfl | rfl | rfl | rfl | rfl | rfl | rfl | rfl | rfl | rfl | rfl | rfl | rfl | rfl <;> rfl

theorem togs_succ (m : List Bool) (k t : Nat) (h : t < 14) : Crc.togs m k (t + 1) = Crc.tog (Crc.togs m k t) (k + 32 - Crc.powers.getD t 0) := by
  unfold Crc.togs
  rw [List.take_add_one, List.foldl_append]
  have : Crc.powers[t]? = some (Crc.powers.getD t 0) := by
    rw [List.getD_eq_getElem?_getD, List.getElem?_eq_getElem (show t < Crc.powers.length from h)]; rfl
  rw [this]; rfl

theorem pow_le (t : Nat) (h : t < 14) : Crc.powers.getD t 0 ≤ 26 := by
  apply Crc.powers_le
  rw [List.getD_eq_getElem?_getD, List.getElem?_eq_getElem (show t < Crc.powers.length from h)]
  exact List.getElem_mem _

theorem divRound_no {m : List Bool} {k : Nat} (h : m.getD k false = false) : Crc.divRound m k = m := by
  unfold Crc.divRound; rw [h]; rfl

theorem divRound_yes {m : List Bool} {k : Nat} (h : m.getD k false = true) : Crc.divRound m k = Crc.togs m k 14 := by
  unfold Crc.divRound; rw [h]; rfl

theorem U_32 (V : BitVec 32) : (Value.int .u32 0) = .int .u32 (U (V >>> 32)) := by
  have : V >>> 32 = 0#32 := by
    apply BitVec.eq_of_toNat_eq
    rw [BitVec.toNat_ushiftRight, Nat.shiftRight_eq_div_pow, Nat.div_eq_of_lt V.isLt]; rfl
  rw [this]; rfl

theorem acc_step (V : BitVec 32) (q : Nat) : U (V >>> (q + 1)) * (2 : Int) % (4294967296 : Int) + (if V.getLsbD q then 1 else 0) = U (V >>> q) := by
  unfold U
  rw [BitVec.toNat_ushiftRight, BitVec.toNat_ushiftRight, Nat.shiftRight_eq_div_pow, Nat.shiftRight_eq_div_pow, Nat.pow_succ, ← Nat.div_div_eq_div_mul]
  have hM : V.toNat / 2 ^ q < 4294967296 := Nat.lt_of_le_of_lt (Nat.div_le_self _ _) V.isLt
  have hb : V.getLsbD q = decide (V.toNat / 2 ^ q % 2 = 1) := by
    rw [BitVec.getLsbD, Nat.testBit_eq_decide_div_mod_eq]
  rw [hb]
  generalize V.toNat / 2 ^ q = M at hM
  by_cases h : M % 2 = 1
  · simp [h]; omega
  · simp [h]; omega

set_option maxHeartbeats 800000 in
theorem divide_calls (g c n base : Nat) (l : List Bool) (w : World) (hbase : base ≤ w.heap.size) (hn : 32 ≤ n) (hn' : n ≤ 100000)
    (hown : w.ownsRow base 4 1 (.slice (some ⟨g, 0, none⟩) n c) n (l.map Value.bool)) :
    Calls Try.prog 36 #[.slice (some ⟨g, 0, none⟩) n c] w fun e w' => e = .returned (.int .u32 (U (Crc.left l))) ∧ Below base w w' := by
  have hl : l.length = n := by have := hown.1; rwa [List.length_map, Nat.mul_one] at this
  have hgb := (hown.lt g rfl).1
  have hgl := (hown.lt g rfl).2
  have HL := Lib.hid hl
  clear hl
  have hown1 := hown.alloc (.cells powCells 3)
  have hB1 : (w.alloc (.cells powCells 3)).heap[w.heap.size]? = some (.cells powCells 3 (0, 0)) := heap_alloc_new w _
  have hb1 : Below base w (w.alloc (.cells powCells 3)) := (Below.refl _ w).alloc hbase _
  have HO := Lib.hid hown1
  have HB := Lib.hid hB1
  have HBE := Lib.hid hb1
  clear hown hown1 hB1 hb1
  go_enter Try.func36, Try.ntmps36
  go_wp2_with fail
  go_loopw [4] (fun i wr => ∃ k : Nat, k + 32 ≤ n ∧ i = .int .i64 k ∧ wr.ownsRow base 4 1 (.slice (some ⟨g, 0, none⟩) n c) n ((Crc.divTo l k).map Value.bool) ∧ wr.heap[w.heap.size]? = some (.cells powCells 3 (0, 0)) ∧ Below base w wr) (fun i _ => n - (intOf i).toNat)
  case atStart => exact ⟨0, by omega, rfl, HO.out, HB.out, HBE.out⟩
  case round =>
    clear HO HB HBE
    obtain ⟨k, hk, rfl, hown, hB, hbel⟩ := hrel
    have hdl : (Crc.divTo l k).length = n := by rw [Crc.divTo_length]; exact HL.out
    have HDL := Lib.hid hdl
    clear hdl
    by_cases hlt : k + 32 < n
    · have hc : wr.cell? ⟨g, k, none⟩ = some (.bool ((Crc.divTo l k).getD k false)) := by
        rw [hown.cellAt k (by omega), List.getElem?_map, List.getD_eq_getElem?_getD, List.getElem?_eq_getElem (by rw [HDL.out]; omega)]; rfl
      have HRD : Hid (Crc.divTo l (k + 1) = Crc.divRound (Crc.divTo l k) k) := rfl
      generalize Crc.divTo l k = m at hown HDL hc HRD
      have HOW := Lib.hid hown
      have HBB := Lib.hid hB
      have HBE := Lib.hid hbel
      clear hown hB hbel
      cases hm : m.getD k false with
      | false =>
        rw [hm] at hc
        have HM := Lib.hid hm
        clear hm
        go_wp2_with fail
        go_roundw
        case rel => exact ⟨k + 1, by omega, by go_num, by rw [HRD.out, divRound_no HM.out]; exact HOW.out, HBB.out, HBE.out⟩
        case measure => simp [intOf]; omega
      | true =>
        rw [hm] at hc
        have HM := Lib.hid hm
        clear hm
        go_wp2_with fail
        go_loopw [23] (fun i wr' => ∃ t : Nat, t ≤ 14 ∧ i = .int .i64 t ∧ wr'.ownsRow base 4 1 (.slice (some ⟨g, 0, none⟩) n c) n ((Crc.togs m k t).map Value.bool) ∧ wr'.heap[w.heap.size]? = some (.cells powCells 3 (0, 0)) ∧ Below base w wr') (fun i _ => 14 - (intOf i).toNat)
        case atStart => exact ⟨0, by omega, rfl, HOW.out, HBB.out, HBE.out⟩
        case round =>
          clear HOW HBB HBE hc
          obtain ⟨t, ht, rfl, hown, hB, hbel⟩ := hrel
          by_cases ht14 : t < 14
          · have hp := powCell hB t ht14
            have hple := pow_le t ht14
            have HTS := Lib.hid (togs_succ m k t ht14)
            have hlen : (Crc.togs m k t).length = n := by rw [Crc.togs_length]; exact HDL.out
            generalize Crc.powers.getD t 0 = p at hp hple HTS
            have hcq : wr.cell? ⟨g, k + 32 - p, none⟩ = some (.bool ((Crc.togs m k t).getD (k + 32 - p) false)) := by
              rw [hown.cellAt _ (by omega), List.getElem?_map, List.getD_eq_getElem?_getD, List.getElem?_eq_getElem (by omega)]; rfl
            have hfr := hown.frozenAt (k + 32 - p)
            have HST := Lib.hid (hown.stored (k + 32 - p) (.bool (!(Crc.togs m k t).getD (k + 32 - p) false)))
            have HBB := Lib.hid hB
            have HBE := Lib.hid hbel
            have HLN := Lib.hid hlen
            clear hown hB hbel hlen
            generalize hx : (Crc.togs m k t).getD (k + 32 - p) false = x at hcq HST
            have HX := Lib.hid hx
            clear hx
            go_wp2_with fail
            go_roundw
            case rel =>
              refine ⟨t + 1, by omega, by go_num, ?_, ?_, HBE.out.setCell (p := ⟨g, k + 32 - p, none⟩) hgb _⟩
              · rw [HTS.out, Crc.tog, List.map_set, HX.out]; exact HST.out.1
              · rw [Below.heap_setCell _ _ _ _ (show w.heap.size ≠ g by omega)]; exact HBB.out
            case measure => simp [intOf]; omega
          · obtain rfl : t = 14 := by omega
            have HOW := Lib.hid hown
            have HBB := Lib.hid hB
            have HBE := Lib.hid hbel
            clear hown hB hbel
            go_wp2_with fail
            go_roundw
            case rel => exact ⟨k + 1, by omega, by go_num, by rw [HRD.out, divRound_yes HM.out]; exact HOW.out, HBB.out, HBE.out⟩
            case measure => simp [intOf]; omega
    · obtain rfl : n = k + 32 := by omega
      have HOW := Lib.hid hown
      have HBB := Lib.hid hB
      have HBE := Lib.hid hbel
      clear hown hB hbel
      have HLEFT : Hid (Crc.left l = ~~~ (Crc.win (Crc.divTo l k) k)) := by
        unfold Hid Crc.left
        rw [HL.out, show k + 32 - 32 = k by omega]
      generalize hm : Crc.divTo l k = m at HOW HDL HLEFT
      clear hm
      go_wp2_with fail
      go_loop [7, 8] (fun s i => ∃ q : Nat, q ≤ 32 ∧ i = .int .i64 ((q : Int) - 1) ∧ s = .int .u32 (U ((~~~ (Crc.win m k)) >>> q))) (fun _ i => (intOf i + 1).toNat)
      case atStart => exact ⟨32, by omega, rfl, U_32 _⟩
      case round =>
        obtain ⟨q, hq, rfl, rfl⟩ := hrel
        cases q with
        | zero =>
          have hz : ((0 : Nat) : Int) - 1 = -1 := rfl
          rw [hz, BitVec.ushiftRight_zero, ← HLEFT.out]
          clear hz
          go_wp2_with fail
          go_ret
          exact ⟨rfl, HBE.out⟩
        | succ q =>
          have hcell : wr.cell? ⟨g, k + q, none⟩ = some (.bool (m.getD (k + q) false)) := by
            rw [HOW.out.cellAt _ (by omega), List.getElem?_map, List.getD_eq_getElem?_getD, List.getElem?_eq_getElem (by rw [HDL.out]; omega)]; rfl
          have hbitq : Hid ((~~~ (Crc.win m k)).getLsbD q = !m.getD (k + q) false) := by
            unfold Hid; rw [BitVec.getLsbD_not, Crc.win_bit _ _ _ (by omega)]; simp; omega
          have hqi : ((q + 1 : Nat) : Int) - 1 = q := by omega
          rw [hqi]
          clear hqi
          generalize m.getD (k + q) false = x at hcell hbitq
          generalize ~~~ (Crc.win m k) = V at hbitq HLEFT
          have HAC := Lib.hid (acc_step V q)
          cases x with
          | false =>
            go_wp2_with fail
            go_round
            case rel =>
              have h1 := HAC.out
              rw [hbitq.out] at h1
              exact ⟨q, by omega, rfl, by rw [← h1]; rfl⟩
            case measure => simp [intOf]
          | true =>
            go_wp2_with fail
            go_round
            case rel =>
              have h1 := HAC.out
              rw [hbitq.out] at h1
              exact ⟨q, by omega, rfl, by rw [← h1]; simp⟩
            case measure => simp [intOf]

theorem U_bit0 (Z : BitVec 32) (j : Nat) : ((U (Z >>> j)).tmod 2 == 0) = !Z.getLsbD j := by
  rw [U_rem, BitVec.getLsbD_ushiftRight, Nat.add_zero]
  cases Z.getLsbD j <;> rfl

set_option maxHeartbeats 800000 in
theorem refMore_calls (s : BitVec 32) (a : Option Addr) (len cap : Nat) (zs : List Int) (wa : World) (hb : Bytes wa a len zs) (hlen : len ≤ 2000) :
    Calls Try.prog 17 #[.int .u32 (U s), .slice a len cap] wa fun e w' => e = .returned (.int .u32 (U (Crc.mor s zs))) ∧ Below wa.heap.size wa w' := by
  have HB0 := Lib.hid hb
  clear hb
  obtain ⟨i0, hi, hz0, hz1, hz2⟩ := info_parts info4
  go_enter Try.func17, Try.ntmps17
  go_wp2_with fail
  refine (bits_calls a len cap zs wa HB0.out hlen).mono ?_
  rintro e w2 ⟨g, c, rfl, hgb, hown, hbel⟩
  have HOW := Lib.hid hown
  have HBE := Lib.hid hbel
  have hbase := hbel.size
  clear hown hbel
  go_wp2_with (at_builtin; go_loud (refine wpList_append_zeros _ rfl (.tmp 8) (.const (.int .i64 32)) 59 3 rfl wa.heap.size 4 i0 (.bool false) 1 Try.underlying59 Try.underlying3 hi hz0 hz1 hz2 rfl rfl g c (8 * len) _ rfl HOW.out 32 rfl ?c1 ?c2 ?c3 ?c4 ?c5 ?c6))
  case c1 => omega
  case c2 => omega
  case c3 => simp only [maxLen]; omega
  case c4 => omega
  case c5 => exact hbase
  case c6 =>
    intro g' c' w3 hown hgrow
    have hbel3 : Below wa.heap.size wa w3 := HBE.out.grown hgrow hbase (by intro q hq; cases hq; exact hgb)
    have HOW3 : Hid (w3.ownsRow wa.heap.size 4 1 (.slice (some ⟨g', 0, none⟩) (8 * len + 32) c') (8 * len + 32) ((Crc.bitsOf zs ++ List.replicate 32 false).map Value.bool)) := by
      unfold Hid; rw [List.map_append, List.map_replicate]; exact hown
    have HBE3 := Lib.hid hbel3
    have HFIN := Lib.hid (Crc.left_metTo s zs HB0.out.2.2.1)
    have hml : Hid ((Crc.bitsOf zs ++ List.replicate 32 false).length = 8 * len + 32) := by
      unfold Hid; rw [List.length_append, Crc.bitsOf_length, List.length_replicate, HB0.out.1]
    have hgb3 := (hown.lt g' rfl).1
    clear hown hgrow hbel3 HOW HBE
    generalize Crc.bitsOf zs ++ List.replicate 32 false = m at HOW3 HFIN hml
    go_wp2_with fail
    go_loopw [0, 6] (fun q i wr => ∃ k : Nat, k ≤ 32 ∧ i = .int .i64 k ∧ q = .int .u32 (U (s >>> k)) ∧ wr.ownsRow wa.heap.size 4 1 (.slice (some ⟨g', 0, none⟩) (8 * len + 32) c') (8 * len + 32) ((Crc.metTo s m k).map Value.bool) ∧ Below wa.heap.size wa wr) (fun _ i _ => 32 - (intOf i).toNat)
    case atStart => exact ⟨0, by omega, rfl, by rw [BitVec.ushiftRight_zero], HOW3.out, HBE3.out⟩
    case round =>
      clear HOW3 HBE3
      obtain ⟨k, hk, rfl, rfl, hown, hbel⟩ := hrel
      have hlk : (Crc.metTo s m k).length = 8 * len + 32 := by rw [Crc.metTo_length]; exact hml.out
      by_cases hk2 : k < 32
      · have hc : wr.cell? ⟨g', k, none⟩ = some (.bool ((Crc.metTo s m k).getD k false)) := by
          rw [hown.cellAt _ (by omega), List.getElem?_map, List.getD_eq_getElem?_getD, List.getElem?_eq_getElem (by omega)]; rfl
        have hf := hown.frozenAt k
        have HST := Lib.hid (hown.stored k (.bool (!(Crc.metTo s m k).getD k false)))
        have HNX := Lib.hid (U_next s k)
        have hb0 := U_bit0 s k
        have HMT : Hid (Crc.metTo s m (k + 1) = if s.getLsbD k then Crc.metTo s m k else Crc.tog (Crc.metTo s m k) k) := rfl
        have HOW := Lib.hid hown
        have HBE := Lib.hid hbel
        clear hown hbel hlk
        generalize hx : (Crc.metTo s m k).getD k false = x at hc HST
        have HX := Lib.hid hx
        clear hx
        cases hs : s.getLsbD k with
        | true =>
          rw [hs] at hb0 HMT
          clear hs
          go_wp2_with fail
          go_roundw
          case rel => exact ⟨k + 1, by omega, by go_num, by rw [HNX.out], by rw [HMT.out]; exact HOW.out, HBE.out⟩
          case measure => simp [intOf]; omega
        | false =>
          rw [hs] at hb0 HMT
          clear hs
          go_wp2_with fail
          go_roundw
          case rel => exact ⟨k + 1, by omega, by go_num, by rw [HNX.out], by rw [HMT.out]; simp only [Bool.false_eq_true, if_false, Crc.tog]; rw [List.map_set, HX.out]; exact HST.out.1, HBE.out.setCell (p := ⟨g', k, none⟩) hgb3 _⟩
          case measure => simp [intOf]; omega
      · obtain rfl : k = 32 := by omega
        have HOW := Lib.hid hown
        have HBE := Lib.hid hbel
        clear hown hbel hlk
        go_wp2_with fail
        refine (divide_calls g' c' (8 * len + 32) wa.heap.size _ wr HBE.out.size (by omega) (by omega) HOW.out).mono ?_
        rintro e w5 ⟨rfl, hb5⟩
        have HB5 := Lib.hid (HBE.out.trans hb5)
        clear hb5
        rw [HFIN.out]
        go_wp2_with fail
        go_ret
        exact ⟨rfl, HB5.out⟩
set_option maxHeartbeats 800000 in
theorem refOf_calls (a : Option Addr) (len cap : Nat) (zs : List Int) (wa : World) (hb : Bytes wa a len zs) (hlen : len ≤ 2000) :
    Calls Try.prog 15 #[.slice a len cap] wa fun e w' => e = .returned (.int .u32 (U (Crc.mor 0#32 zs))) ∧ Below wa.heap.size wa w' := by
  have HB0 := Lib.hid hb
  clear hb
  obtain ⟨i0, hi, hz0, hz1, hz2⟩ := info_parts info4
  go_enter Try.func15, Try.ntmps15
  go_wp2_with fail
  refine (bits_calls a len cap zs wa HB0.out hlen).mono ?_
  rintro e w2 ⟨g, c, rfl, hgb, hown, hbel⟩
  have HOW := Lib.hid hown
  have HBE := Lib.hid hbel
  have hbase := hbel.size
  clear hown hbel
  go_wp2_with (at_builtin; go_loud (refine wpList_append_zeros _ rfl (.tmp 6) (.const (.int .i64 32)) 59 3 rfl wa.heap.size 4 i0 (.bool false) 1 Try.underlying59 Try.underlying3 hi hz0 hz1 hz2 rfl rfl g c (8 * len) _ rfl HOW.out 32 rfl ?c1 ?c2 ?c3 ?c4 ?c5 ?c6))
  case c1 => omega
  case c2 => omega
  case c3 => simp only [maxLen]; omega
  case c4 => omega
  case c5 => exact hbase
  case c6 =>
    intro g' c' w3 hown hgrow
    have hbel3 : Below wa.heap.size wa w3 := HBE.out.grown hgrow hbase (by intro q hq; cases hq; exact hgb)
    have HOW3 : Hid (w3.ownsRow wa.heap.size 4 1 (.slice (some ⟨g', 0, none⟩) (8 * len + 32) c') (8 * len + 32) ((Crc.bitsOf zs ++ List.replicate 32 false).map Value.bool)) := by
      unfold Hid; rw [List.map_append, List.map_replicate]; exact hown
    have HBE3 := Lib.hid hbel3
    have HFIN := Lib.hid (Crc.left_metTo 0#32 zs HB0.out.2.2.1)
    have hml : Hid ((Crc.bitsOf zs ++ List.replicate 32 false).length = 8 * len + 32) := by
      unfold Hid; rw [List.length_append, Crc.bitsOf_length, List.length_replicate, HB0.out.1]
    have hgb3 := (hown.lt g' rfl).1
    clear hown hgrow hbel3 HOW HBE
    generalize Crc.bitsOf zs ++ List.replicate 32 false = m at HOW3 HFIN hml
    go_wp2_with fail
    go_loopw [4] (fun i wr => ∃ k : Nat, k ≤ 32 ∧ i = .int .i64 k ∧ wr.ownsRow wa.heap.size 4 1 (.slice (some ⟨g', 0, none⟩) (8 * len + 32) c') (8 * len + 32) ((Crc.metTo 0#32 m k).map Value.bool) ∧ Below wa.heap.size wa wr) (fun i _ => 32 - (intOf i).toNat)
    case atStart => exact ⟨0, by omega, rfl, HOW3.out, HBE3.out⟩
    case round =>
      clear HOW3 HBE3
      obtain ⟨k, hk, rfl, hown, hbel⟩ := hrel
      have hlk : (Crc.metTo 0#32 m k).length = 8 * len + 32 := by rw [Crc.metTo_length]; exact hml.out
      by_cases hk2 : k < 32
      · have hc : wr.cell? ⟨g', k, none⟩ = some (.bool ((Crc.metTo 0#32 m k).getD k false)) := by
          rw [hown.cellAt _ (by omega), List.getElem?_map, List.getD_eq_getElem?_getD, List.getElem?_eq_getElem (by omega)]; rfl
        have hf := hown.frozenAt k
        have HST := Lib.hid (hown.stored k (.bool (!(Crc.metTo 0#32 m k).getD k false)))
        have HMT : Hid (Crc.metTo 0#32 m (k + 1) = if (0#32).getLsbD k then Crc.metTo 0#32 m k else Crc.tog (Crc.metTo 0#32 m k) k) := rfl
        have HOW := Lib.hid hown
        have HBE := Lib.hid hbel
        clear hown hbel hlk
        generalize hx : (Crc.metTo 0#32 m k).getD k false = x at hc HST
        have HX := Lib.hid hx
        clear hx
        go_wp2_with fail
        go_roundw
        case rel => exact ⟨k + 1, by omega, by go_num, by rw [HMT.out, if_neg (by simp), Crc.tog, List.map_set, HX.out]; exact HST.out.1, HBE.out.setCell (p := ⟨g', k, none⟩) hgb3 _⟩
        case measure => simp [intOf]; omega
      · obtain rfl : k = 32 := by omega
        have HOW := Lib.hid hown
        have HBE := Lib.hid hbel
        clear hown hbel hlk
        go_wp2_with fail
        refine (divide_calls g' c' (8 * len + 32) wa.heap.size _ wr HBE.out.size (by omega) (by omega) HOW.out).mono ?_
        rintro e w5 ⟨rfl, hb5⟩
        have HB5 := Lib.hid (HBE.out.trans hb5)
        clear hb5
        rw [HFIN.out]
        go_wp2_with fail
        go_ret
        exact ⟨rfl, HB5.out⟩
end Go.Proofs.Ytjeiakfdjbnkaaa

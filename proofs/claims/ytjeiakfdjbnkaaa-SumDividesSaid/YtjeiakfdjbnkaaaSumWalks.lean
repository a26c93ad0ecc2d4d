/-
  The walks of sum.More, sum.Of and awake: what they return is the register's own sum; they write nothing.
-/
import Derived.Test.YtjeiakfdjbnkaaaRows
import Derived.Test.YtjeiakfdjbnkaaaCrc
import Derived.WalkKit
import Derived.WalkSpells
import Derived.WalkLawsBesides
import Derived.Below
import Derived.Lib.Hide
import Derived.Lib.SlBytesConst
import Derived.Deep.QuietTactic
import Derived.Deep.AppendLies
namespace Go.Proofs.Ytjeiakfdjbnkaaa
open Go.RowKit
set_option linter.unusedVariables false

/-- A slice's address and length read as a list of bytes. -/
def Bytes (w : World) (a : Option Addr) (len : Nat) (zs : List Int) : Prop :=
  zs.length = len ∧ len ≤ maxLen ∧ (∀ z ∈ zs, 0 ≤ z ∧ z ≤ 255) ∧
  (len = 0 ∨ ∃ b off, a = some ⟨b, off, none⟩ ∧ ∀ i, i < len → w.cell? ⟨b, off + i, none⟩ = some (.int .u8 (zs.getD i 0)))

/-- A register as an integer. -/
def U (t : BitVec 32) : Int := t.toNat

theorem U_lo (t : BitVec 32) : 0 ≤ U t := by unfold U; omega
theorem U_hi (t : BitVec 32) : U t < 4294967296 := by unfold U; have := t.isLt; omega
theorem U_inj {a b : BitVec 32} (h : U a = U b) : a = b := by
  unfold U at h
  exact BitVec.eq_of_toNat_eq (by omega)
theorem U_ofInt (z : Int) (h0 : 0 ≤ z) (h : z < 4294967296) : U (BitVec.ofInt 32 z) = z := by
  unfold U
  obtain ⟨n, rfl⟩ := Int.eq_ofNat_of_zero_le h0
  rw [BitVec.ofInt_natCast, BitVec.toNat_ofNat]
  omega

theorem wrap_U (t : BitVec 32) : IntKind.u32.wrap (t.toNat : Int) = U t := by
  have := t.isLt
  unfold U
  simp only [IntKind.wrap, IntKind.bits, IntKind.signed]
  simp; omega

theorem ofInt_U (t : BitVec 32) : BitVec.ofInt 32 (U t) = t := by
  unfold U; rw [BitVec.ofInt_natCast]; simp

theorem ofInt_mod (z : Int) : BitVec.ofInt 32 (z % 4294967296) = BitVec.ofInt 32 z := by
  apply BitVec.eq_of_toNat_eq
  simp [BitVec.toNat_ofInt]

theorem xor_byte (t : BitVec 32) (z : Int) : bits .xor .u32 (U t) (z % 4294967296) = U (t ^^^ BitVec.ofInt 32 z) := by
  show IntKind.u32.wrap ((BitVec.ofInt 32 (U t) ^^^ BitVec.ofInt 32 (z % 4294967296)).toNat : Int) = _
  rw [ofInt_U, ofInt_mod, wrap_U]

theorem xor_poly (t : BitVec 32) : bits .xor .u32 (U t) 3988292384 = U (t ^^^ 0xEDB88320#32) := by
  show IntKind.u32.wrap ((BitVec.ofInt 32 (U t) ^^^ BitVec.ofInt 32 3988292384).toNat : Int) = _
  rw [ofInt_U, wrap_U]; rfl

theorem xor_max (t : BitVec 32) : bits .xor .u32 IntKind.u32.max (U t) = U (~~~ t) := by
  show IntKind.u32.wrap ((BitVec.ofInt 32 4294967295 ^^^ BitVec.ofInt 32 (U t)).toNat : Int) = _
  rw [ofInt_U, wrap_U]
  have : BitVec.ofInt 32 4294967295 ^^^ t = ~~~ t := by
    rw [show BitVec.ofInt 32 4294967295 = BitVec.allOnes 32 by decide, BitVec.allOnes_xor]
  rw [this]

theorem and_one (t : BitVec 32) : bits .and .u32 (U t) 1 = if t.getLsbD 0 then 1 else 0 := by
  show IntKind.u32.wrap ((BitVec.ofInt 32 (U t) &&& BitVec.ofInt 32 1).toNat : Int) = _
  rw [ofInt_U, wrap_U]
  have : t &&& BitVec.ofInt 32 1 = if t.getLsbD 0 then 1#32 else 0#32 := by
    apply BitVec.eq_of_getLsbD_eq
    intro i hi
    rw [BitVec.getLsbD_and, show BitVec.ofInt 32 1 = 1#32 by decide, BitVec.getLsbD_one]
    cases i with
    | zero => cases h : t.getLsbD 0 <;> simp
    | succ i => cases h : t.getLsbD 0 <;> simp
  rw [this]
  cases t.getLsbD 0 <;> rfl

theorem shr_one (t : BitVec 32) : U t / (2 : Int) = U (t >>> 1) := by
  unfold U
  rw [BitVec.toNat_ushiftRight, Nat.shiftRight_eq_div_pow]
  omega

/-- The last lines of a round of the inner loop, either way. -/
theorem stp_yes (T : BitVec 32) (h : (bits .and .u32 (U T) 1 == 1) = true) : bits .xor .u32 (U T / 2) 3988292384 = U (Crc.stp T) := by
  rw [and_one] at h
  have h0 : T.getLsbD 0 = true := by
    cases hh : T.getLsbD 0 with
    | true => rfl
    | false => rw [hh] at h; simp at h
  rw [shr_one, xor_poly]
  unfold Crc.stp
  rw [h0]; rfl

theorem stp_no (T : BitVec 32) (h : (bits .and .u32 (U T) 1 == 1) = false) : U T / 2 = U (Crc.stp T) := by
  rw [and_one] at h
  have h0 : T.getLsbD 0 = false := by
    cases hh : T.getLsbD 0 with
    | false => rfl
    | true => rw [hh] at h; simp at h
  rw [shr_one, Crc.stp_low h0]

theorem ret_u32 {a b : Int} (h : a = b) : Ending.returned (.int .u32 a) = .returned (.int .u32 b) := by rw [h]

theorem take_snoc' (zs : List Int) (k : Nat) (h : k < zs.length) : zs.take (k + 1) = zs.take k ++ [zs.getD k 0] := by
  rw [List.take_succ_eq_append_getElem h]
  simp [List.getD_eq_getElem?_getD, h]

theorem reg_snoc (s : BitVec 32) (zs : List Int) (k : Nat) (h : k < zs.length) :
    Crc.reg s (zs.take (k + 1)) = Crc.stpN 8 (Crc.reg s (zs.take k) ^^^ BitVec.ofInt 32 (zs.getD k 0)) := by
  rw [take_snoc' zs k h, Crc.reg_append]; rfl

set_option maxHeartbeats 400000 in
theorem more_calls (t0 : BitVec 32) (a : Option Addr) (len cap : Nat) (zs : List Int) (w : World) (hb : Bytes w a len zs) :
    Calls Try.prog 16 #[.int .u32 (U t0), .slice a len cap] w fun e w' => e = .returned (.int .u32 (U (Crc.mor t0 zs))) ∧ w = w' := by
  obtain ⟨hlen, hmax, hwf, hcells⟩ := hb
  unfold maxLen at hmax
  have hx0 := xor_max t0
  go_enter Try.func16, Try.ntmps16
  go_wp2
  go_loop [0, 12] (fun x i => ∃ k : Nat, k ≤ len ∧ i = .int .i64 k ∧ x = .int .u32 (U (Crc.reg (~~~ t0) (zs.take k)))) (fun _ i => len - (intOf i).toNat)
  case atStart => exact ⟨0, by omega, rfl, rfl⟩
  case round =>
    obtain ⟨k, hk, rfl, rfl⟩ := hrel
    by_cases hlt : k < len
    · rcases hcells with h0 | ⟨b, off, ha, hcs⟩
      · omega
      subst ha
      have hc := hcs k hlt
      clear hcs
      have hs := reg_snoc (~~~ t0) zs k (by omega)
      have HS := Lib.hid hs
      clear hs
      generalize zs.getD k 0 = z at hc HS
      generalize Crc.reg (~~~ t0) (zs.take k) = R at HS
      have hx1 := xor_byte R z
      go_wp2
      go_loop [0, 20] (fun x i => ∃ j : Nat, j ≤ 8 ∧ i = .int .i64 j ∧ x = .int .u32 (U (Crc.stpN j (R ^^^ BitVec.ofInt 32 z)))) (fun _ i => 8 - (intOf i).toNat)
      case atStart => exact ⟨0, by omega, rfl, rfl⟩
      case round =>
        obtain ⟨j, hj, rfl, rfl⟩ := hrel
        by_cases hj8 : j < 8
        · have hst : Hid (Crc.stpN (j + 1) (R ^^^ BitVec.ofInt 32 z) = Crc.stp (Crc.stpN j (R ^^^ BitVec.ofInt 32 z))) := rfl
          generalize hT : Crc.stpN j (R ^^^ BitVec.ofInt 32 z) = T at hst
          have HT := Lib.hid hT
          clear hT
          go_wp2
          · go_round
            case rel => exact ⟨j + 1, by omega, by go_num, by rw [stp_yes T (by assumption), hst.out]⟩
            case measure => simp [intOf]; omega
          · go_round
            case rel => exact ⟨j + 1, by omega, by go_num, by rw [stp_no T (by assumption), hst.out]⟩
            case measure => simp [intOf]; omega
        · obtain rfl : j = 8 := by omega
          go_wp2
          go_round
          case rel => exact ⟨k + 1, by omega, by go_num, by rw [HS.out]⟩
          case measure => simp [intOf]; omega
    · obtain rfl : k = len := by omega
      have hall : zs.take k = zs := List.take_of_length_le (by omega)
      rw [hall]
      have hx2 := xor_max (Crc.reg (~~~ t0) zs)
      go_wp2
      go_ret
      exact ⟨ret_u32 rfl, rfl⟩

theorem U_zero : U 0#32 = 0 := rfl

set_option maxHeartbeats 400000 in
theorem of_calls (a : Option Addr) (len cap : Nat) (zs : List Int) (w : World) (hb : Bytes w a len zs) :
    Calls Try.prog 14 #[.slice a len cap] w fun e w' => e = .returned (.int .u32 (U (Crc.mor 0#32 zs))) ∧ w = w' := by
  have H := Lib.hid hb
  clear hb
  go_enter Try.func14, Try.ntmps14
  go_wp2_with fail
  rw [← U_zero]
  refine (more_calls 0#32 a len cap zs _ H.out).mono ?_
  rintro e w' ⟨rfl, rfl⟩
  go_wp2_with fail
  go_ret
  exact ⟨rfl, rfl⟩

set_option maxHeartbeats 400000 in
theorem awake_calls (w : World) :
    Calls Try.prog 13 #[] w fun e w' => e = .returned (.bool true) ∧ Below w.heap.size w w' := by
  have kc := fun (w : World) (C : Array Value) (n c : Nat) => Lib.run_convert_bytes_const (P := Try.prog) w 22 5 C n c Try.underlying22 Try.underlying5
  have hsum : Hid (U (Crc.mor 0#32 [49, 50, 51, 52, 53, 54, 55, 56, 57]) = 3421780262) := by
    rw [Crc.awake_sum]; rfl
  go_enter Try.func13, Try.ntmps13
  go_wp2_with fail
  refine (of_calls _ _ _ [49, 50, 51, 52, 53, 54, 55, 56, 57] _ ⟨rfl, by unfold maxLen; simp, by decide, .inr ⟨_, _, rfl, ?_⟩⟩).mono ?_
  · intro i hi
    rw [Nat.zero_add, World.cell?_alloc_mark]
    have h9 : i < 9 := hi
    rcases (by omega : i = 0 ∨ i = 1 ∨ i = 2 ∨ i = 3 ∨ i = 4 ∨ i = 5 ∨ i = 6 ∨ i = 7 ∨ i = 8) with rfl | rfl | rfl | rfl | rfl | rfl | rfl | rfl | rfl <;> rfl
  rintro e w' ⟨rfl, rfl⟩
  rw [hsum.out]
  go_wp2_with fail
  go_ret
  exact ⟨rfl, (Below.refl _ _).alloc (Nat.le_refl _) _⟩

/-- WHAT A WALK IS TOLD OF A SLICE OF INTEGERS THAT CAME IN: it is nil; or it leads to a row of 'cap' cells, the numbers 'zs' (the first 'len' are its elements, the rest its spare room), each fitting its kind. -/
def IsRow (k : IntKind) (w : World) (a : Option Addr) (len cap : Nat) (zs : List Int) : Prop :=
  (a = none ∧ len = 0 ∧ cap = 0 ∧ zs = []) ∨
  ∃ x, a = some x ∧ len ≤ cap ∧ cap ≤ maxLen ∧ zs.length = cap ∧ (∀ i, i < zs.length → w.cell? (x.add i) = some (.int k (zs.getD i 0))) ∧ ∀ n ∈ zs, (Lit.int k n).wf = true

theorem wf_u8 {n : Int} (h : (Lit.int .u8 n).wf = true) : 0 ≤ n ∧ n ≤ 255 := by
  simp [Lit.wf, IntKind.min, IntKind.max, IntKind.bits, IntKind.signed] at h
  omega

theorem getD_take (zs : List Int) (len i : Nat) (h : i < len) : (zs.take len).getD i 0 = zs.getD i 0 := by
  simp [List.getD_eq_getElem?_getD, h]

theorem addr_flat {w : World} {x : Addr} {v : Value} (h : w.cell? (x.add 0) = some v) : ∃ b off, x = ⟨b, off, none⟩ := by
  obtain ⟨b, off, spot⟩ := x
  have hspot : spot = none := by simpa [Addr.add] using World.cell?_spot h
  exact ⟨b, off, by rw [hspot]⟩

theorem IsRow.cells {k : IntKind} {w : World} {a : Option Addr} {len cap : Nat} {zs : List Int} (h : IsRow k w a len cap zs) :
    (zs.take len).length = len ∧ len ≤ cap ∧ cap ≤ maxLen ∧ (∀ n ∈ zs.take len, (Lit.int k n).wf = true) ∧
    (len = 0 ∨ ∃ b off, a = some ⟨b, off, none⟩ ∧ ∀ i, i < len → w.cell? ⟨b, off + i, none⟩ = some (.int k ((zs.take len).getD i 0))) := by
  rcases h with ⟨rfl, rfl, rfl, rfl⟩ | ⟨x, rfl, hl, hm, hz, hcell, hwz⟩
  · exact ⟨rfl, Nat.le_refl _, by simp [maxLen], by simp, .inl rfl⟩
  · refine ⟨by rw [List.length_take]; omega, hl, hm, fun n hn => hwz n (List.mem_of_mem_take hn), ?_⟩
    by_cases h0 : len = 0
    · exact .inl h0
    · obtain ⟨b, off, rfl⟩ := addr_flat (hcell 0 (by omega))
      refine .inr ⟨b, off, rfl, fun i hi => ?_⟩
      rw [getD_take _ _ _ hi]
      have := hcell i (by omega)
      rwa [Addr.add_lit] at this

theorem IsRow.bytes {w : World} {a : Option Addr} {len cap : Nat} {zs : List Int} (h : IsRow .u8 w a len cap zs) : Bytes w a len (zs.take len) := by
  obtain ⟨h1, h2, h3, h4, h5⟩ := h.cells
  exact ⟨h1, Nat.le_trans h2 h3, fun z hz => wf_u8 (h4 z hz), h5⟩

theorem cell_below {w w' : World} (hb : Below w.heap.size w w') {a : Addr} {v : Value} (h : w.cell? a = some v) : w'.cell? a = some v :=
  (hb.cell (World.block_lt_of_cell? w a h)).trans h

theorem Bytes.below {w w' : World} {a : Option Addr} {len : Nat} {zs : List Int} (h : Bytes w a len zs) (hb : Below w.heap.size w w') : Bytes w' a len zs := by
  obtain ⟨h1, h2, h3, h4⟩ := h
  refine ⟨h1, h2, h3, h4.imp id fun ⟨b, off, ha, hc⟩ => ⟨b, off, ha, fun i hi => cell_below hb (hc i hi)⟩⟩

/-- A piece of bytes. -/
theorem Bytes.piece {w : World} {a : Option Addr} {len : Nat} {zs : List Int} (h : Bytes w a len zs) (s t : Nat) (hst : s ≤ t) (ht : t ≤ len) :
    Bytes w (a.map fun x => x.add s) (t - s) ((zs.drop s).take (t - s)) := by
  obtain ⟨h1, h2, h3, h4⟩ := h
  refine ⟨by rw [List.length_take, List.length_drop]; omega, by omega, fun z hz => h3 z (List.mem_of_mem_drop (List.mem_of_mem_take hz)), ?_⟩
  rcases h4 with h0 | ⟨b', off', rfl, hc⟩
  · exact .inl (by omega)
  · refine .inr ⟨b', off' + s, by simp [Addr.add_lit], fun i hi => ?_⟩
    have := hc (s + i) (by omega)
    rw [← Nat.add_assoc] at this
    rw [this]
    congr 2
    rw [getD_take _ _ _ hi]
    simp [List.getD_eq_getElem?_getD]

theorem Bytes.rest {w : World} {a : Option Addr} {len : Nat} {zs : List Int} (h : Bytes w a len zs) (s : Nat) (hs : s ≤ len) :
    Bytes w (a.map fun x => x.add s) (len - s) (zs.drop s) := by
  have := h.piece s len hs (Nat.le_refl _)
  rwa [List.take_of_length_le (by rw [List.length_drop, h.1]; omega)] at this

theorem mor_start (bs : List Int) : (Value.int .u32 0) = .int .u32 (U (Crc.mor 0#32 (bs.take 0))) := by
  rw [List.take_zero, Crc.mor_nil]; rfl

/-- A row of the call's own reads as bytes. -/
theorem bytes_of_own {w : World} {base g n cap : Nat} {zs : List Int} (h : w.ownsRow base 5 1 (.slice (some ⟨g, 0, none⟩) n cap) n (zs.map (Value.int .u8)))
    (hn : n ≤ maxLen) (hwf : ∀ z ∈ zs, 0 ≤ z ∧ z ≤ 255) : Bytes w (some ⟨g, 0, none⟩) n zs := by
  have hl : zs.length = n := by have := h.1; rw [List.length_map, Nat.mul_one] at this; exact this
  refine ⟨hl, hn, hwf, .inr ⟨g, 0, rfl, fun i hi => ?_⟩⟩
  rw [Nat.zero_add, h.cellAt i (by omega), List.getElem?_map, List.getD_eq_getElem?_getD, List.getElem?_eq_getElem (by omega)]; rfl

theorem Bytes.drewN {w : World} {a : Option Addr} {len : Nat} {zs : List Int} (h : Bytes w a len zs) (n : Nat) : Bytes (w.drewN n) a len zs := by
  obtain ⟨h1, h2, h3, h4⟩ := h
  exact ⟨h1, h2, h3, h4.imp id fun ⟨b, off, ha, hc⟩ => ⟨b, off, ha, fun i hi => by simpa using hc i hi⟩⟩

/-- sum.Of met in a region that draws its order. -/
theorem of_quiet (a : Option Addr) (len cap : Nat) (zs : List Int) (w : World) (n : Nat) (hb : Bytes w a len zs) :
    Calls Try.prog 14 #[.slice a len cap] (w.drewN n) fun e w'' => e = .returned (.int .u32 (U (Crc.mor 0#32 zs))) ∧ ∃ m, w'' = w.drewN m :=
  Calls.quiet_of_same ((of_calls a len cap zs _ (hb.drewN n)).mono fun _ _ ⟨he, hw⟩ => ⟨he, hw.symm⟩)

theorem ret_bool {a : Bool} (h : a = true) : Ending.returned (.bool a) = .returned (.bool true) := by rw [h]

theorem U_beq (a b : BitVec 32) : (U a == U b) = decide (a = b) := by
  by_cases h : a = b
  · subst h; simp
  · have : U a ≠ U b := fun e => h (U_inj e)
    simp [h, this]

end Go.Proofs.Ytjeiakfdjbnkaaa

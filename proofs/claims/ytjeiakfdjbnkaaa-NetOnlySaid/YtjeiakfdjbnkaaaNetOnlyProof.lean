/-
  For every script the law NetOnly returns true (what comes was sent, and no more often than it was sent and doubled). No condition.
-/
import Derived.Test.YtjeiakfdjbnkaaaNetAny
import Derived.WalkKit
import Derived.WalkSpells
import Derived.WalkLawsBesides
import Derived.Below
import Derived.Lib.Hide
import Derived.Outline
import Derived.Deep.RegionWith
import Derived.Deep.RegionLaw
import Derived.Deep.AppendLies
import Derived.BigQuiet
import Derived.OpenShut
import Derived.ShutString
import Derived.ChangeOld
import Derived.ProofKit
import Derived.Carry
namespace Go.Proofs.Ytjeiakfdjbnkaaa.netOnly
open Go.ChangeShapes Go.WideShapes Go.ChangeAt Go.RowKit
set_option linter.unusedVariables false

theorem own : ownKnob Try.prog.godebug = none := by kernel_rfl
theorem laidOut : laidOutB Try.prog = true := by kernel_rfl

theorem box4 {w : World} {b : Nat} {x y z u : Value} {t : TypeId} (h : w.heap[b]? = some (.cells #[x, y, z, u] t (0, 0))) :
    w.cell? ⟨b, 0, none⟩ = some x ∧ w.cell? ⟨b, 1, none⟩ = some y ∧ w.cell? ⟨b, 2, none⟩ = some z ∧ w.cell? ⟨b, 3, none⟩ = some u := by
  refine ⟨?_, ?_, ?_, ?_⟩ <;> rw [cell_of_row w b _ _ t (0, 0) h] <;> rfl

/-- What the search for a packet has found among the first n. -/
def Found (os : List Pk) (p : Pk) (n : Nat) (f : Value) : Prop :=
  (f = .int .i64 (-1) ∧ ∀ q, q < n → os.getD q Pk.zero ≠ p) ∨ ∃ q : Nat, q < n ∧ f = .int .i64 q ∧ os.getD q Pk.zero = p

/-- The loop's relation: behind i operations. -/
def Rel (W : World) (B : Nat) (v : Value) (i : Nat) (w : World) : Prop :=
  ∃ fp s os, OwA w fp B W.heap.size s v os ∧ Below W.heap.size W w ∧ s.sent ≤ i ∧ s.came ≤ i ∧ os.length ≤ i ∧ Sub s.ps os

set_option maxRecDepth 100000 in
set_option maxHeartbeats 400000 in
theorem walk (A : Addr) (len cap : Nat) (hl : len ≤ 400) (hc : len ≤ cap) (W : World) (hA : 0 < len → A.block < W.heap.size) (hops : ∀ i, i < len → ∃ o : OpV, OpAt W A i o) :
    Calls Try.prog 9 #[.slice (some A) len cap] W fun e W' => e = .returned (.bool true) ∧ Below W.heap.size W W' := by
  have HOP := Lib.hid hops
  have HA := Lib.hid hA
  clear hops hA
  go_enter Try.func9, Try.ntmps9
  go_wp2_with fail
  refine (awake_calls _).mono ?_
  rintro e wa ⟨rfl, hb⟩
  have HB := Lib.hid hb
  clear hb
  go_wp2_with fail
  refine (new_calls _).mono ?_
  rintro e w1 ⟨B, fp, rfl, hn1, hf1⟩
  have hr0 : Rel W B (.slice none 0 0) 0 w1 := by
    refine ⟨fp, _, [], ⟨hn1, World.ownsRow_nil _ _ _ _, ⟨none, 0, rfl, fun k hk => by simp [blk] at hk⟩, fun k hk => ?_⟩, HB.out.trans ((hf1.below (Nat.le_refl _) (by simp)).mono HB.out.size), by simp, by simp, by simp, ⟨[], by simp⟩⟩
    rcases hf1.src k hk with h | h
    · simp at h
    · have := HB.out.size; omega
  have HR0 := Lib.hid hr0
  clear hn1 hf1 hr0
  go_wp2_with fail
  go_loopw [4, 21] (fun v i wr => ∃ k : Nat, k ≤ len ∧ i = .int .i64 k ∧ Rel W B v k wr) (fun _ i _ => len - (intOf i).toNat)
  case atStart => exact ⟨0, by omega, rfl, HR0.out⟩
  case round =>
    obtain ⟨j, hj, rfl, hrel⟩ := hrel
    have HREL := Lib.hid hrel
    clear hrel HR0
    by_cases hlt : j < len
    · obtain ⟨fq, s, os, how, hbw, hsent, hcame, hosl, hsub⟩ := HREL.out
      obtain ⟨⟨k, x, y, t⟩, hop⟩ := HOP.out j hlt
      have hop' : OpAt wr A j ⟨k, x, y, t⟩ := hop.kept (hbw.block _ (HA.out (by omega)))
      obtain ⟨o0, o1, o2, o3⟩ := hop'
      obtain ⟨hN, hO, ⟨oa, oc, rfl, hfar⟩, hbase⟩ := how
      have hal : Below wr.heap.size wr (wr.alloc (.cells #[.int .i64 k, .int .i64 x, .int .i64 y, .string t] 47)) := (Below.refl _ wr).alloc (Nat.le_refl _) _
      have hsz : W.heap.size ≤ wr.heap.size := hbw.size
      have HOW : Hid (OwA (wr.alloc (.cells #[.int .i64 k, .int .i64 x, .int .i64 y, .string t] 47)) fq B W.heap.size s (.slice oa os.length oc) os) := OwA.below ⟨hN, hO, ⟨oa, oc, rfl, hfar⟩, hbase⟩ hsz hal
      have HBW : Hid (Below W.heap.size W (wr.alloc (.cells #[.int .i64 k, .int .i64 x, .int .i64 y, .string t] 47))) := hbw.alloc hsz _
      have HX : Hid ((wr.alloc (.cells #[.int .i64 k, .int .i64 x, .int .i64 y, .string t] 47)).heap[wr.heap.size]? = some (.cells #[.int .i64 k, .int .i64 x, .int .i64 y, .string t] 47 (0, 0))) := heap_alloc_new wr _
      have HNI : Hid (wr.heap.size ∉ fq) := fun h => by have := hN.valid _ h; omega
      have HSZ : Hid (W.heap.size ≤ (wr.alloc (.cells #[.int .i64 k, .int .i64 x, .int .i64 y, .string t] 47)).heap.size ∧ wr.heap.size < (wr.alloc (.cells #[.int .i64 k, .int .i64 x, .int .i64 y, .string t] 47)).heap.size) := ⟨by simp; omega, by simp⟩
      have HSUB := Lib.hid hsub
      clear hN hO hfar hbase hal hbw hsub hop HREL hsz
      by_cases k0 : k = 0
      · subst k0
        go_wp2_with fail
        refine (send_any fq B s _ ⟨x, y, t⟩ HOW.out.1 (by omega)).mono ?_
        rintro e w2 ⟨f2, s2, hn2, hf2, hd⟩
        have HO2 := Lib.hid (HOW.out.did HSZ.out.1 hn2 hf2)
        have HB2 := Lib.hid (HBW.out.trans (hf2.below HSZ.out.1 HOW.out.2.2.2))
        have hx2 : w2.heap[wr.heap.size]? = some (.cells #[.int .i64 0, .int .i64 x, .int .i64 y, .string t] 47 (0, 0)) := (hf2.block _ HSZ.out.2 HNI.out).trans HX.out
        obtain ⟨b0, b1, b2, b3⟩ := box4 hx2
        have HS2 : Hid (W.heap.size ≤ w2.heap.size) := Nat.le_trans HSZ.out.1 hf2.size
        clear hn2 hf2 hx2
        rcases hd with ⟨rfl, rfl, hroom⟩ | ⟨rfl, rfl, hroom⟩
        · obtain ⟨i0, hi, hz0, hz1, hz2⟩ := info_parts info40
          have hown := HO2.out.2.1
          go_wp2_with (at_builtin; go_loud (refine wpList_append_lies _ rfl (.tmp 43) (.tmp 51) 45 rfl 0 40 i0 _ 3 32 Try.underlying45 hi hz0 hz1 hz2 rfl (by decide) _ os.length _ rfl (hown.alloc _) ⟨w2.heap.size, 0, none⟩ 1 1 (Pk.cells ⟨x, y, t⟩) rfl rfl ?c2 ?c3 ?c4 ?c5 ?c6 ?c7 _ rfl ?c8))
          case c2 => exact new_cells w2 ⟨x, y, t⟩ (0, 0)
          case c3 => exact one_cells ⟨x, y, t⟩
          case c4 => omega
          case c5 => simp only [maxLen]; omega
          case c6 => omega
          case c7 => omega
          case c8 =>
            intro g cap' w3 hown' hgrow hat hg3
            rw [← pkCells_put os ⟨x, y, t⟩] at hown'
            have hgr := HO2.out.grown HS2.out (os' := os ++ [⟨x, y, t⟩]) (by simp) hown' (fun q hq hne => (hgrow.block q (by simp; omega) hne).trans (Below.heap_alloc _ _ _ hq)) (hat.imp id (fun h => by omega)) ⟨hgrow.os, hgrow.tape, hgrow.output, by have := hgrow.size; simp at this; omega⟩
            have HO3 := Lib.hid hgr.1
            have HB3 := Lib.hid (hgr.2 W (Nat.le_refl _) (Nat.le_refl _) HB2.out)
            clear hown hown' hgrow hat hgr b0 b1 b2 b3 hi hz0 hz1 hz2 i0
            go_wp2_with fail
            go_roundw
            case rel => exact ⟨j + 1, by omega, by go_num, f2, _, os ++ [⟨x, y, t⟩], HO3.out, HB3.out, by simp; omega, by simp; omega, by simp; omega, HSUB.out.put _⟩
            case measure => simp [intOf]; omega
        · go_wp2_with fail
          go_roundw
          case rel => exact ⟨j + 1, by omega, by go_num, f2, _, os, HO2.out, HB2.out, by omega, by omega, by omega, HSUB.out⟩
          case measure => simp [intOf]; omega
      · by_cases k1 : k = 1
        · subst k1
          go_wp2_with fail
          refine (take_any fq B s _ x HOW.out.1 (by omega)).mono ?_
          rintro e w2 ⟨f2, s2, hn2, hf2, p, b, rfl, hd⟩
          have hbp : Below w2.heap.size w2 (w2.alloc (.cells #[.int .i64 p.src, .int .i64 p.dst, .string p.txt] 40)) := (Below.refl _ w2).alloc (Nat.le_refl _) _
          have hs2 : W.heap.size ≤ w2.heap.size := Nat.le_trans HSZ.out.1 hf2.size
          have HO2 := Lib.hid ((HOW.out.did HSZ.out.1 hn2 hf2).below hs2 hbp)
          have HB2 : Hid (Below W.heap.size W (w2.alloc (.cells #[.int .i64 p.src, .int .i64 p.dst, .string p.txt] 40))) := (HBW.out.trans (hf2.below HSZ.out.1 HOW.out.2.2.2)).alloc hs2 _
          have hp2 : (w2.alloc (.cells #[.int .i64 p.src, .int .i64 p.dst, .string p.txt] 40)).heap[w2.heap.size]? = some (.cells #[.int .i64 p.src, .int .i64 p.dst, .string p.txt] 40 (0, 0)) := heap_alloc_new w2 _
          have HP2 := Lib.hid hp2
          have HS2 : Hid (W.heap.size ≤ (w2.alloc (.cells #[.int .i64 p.src, .int .i64 p.dst, .string p.txt] 40)).heap.size ∧ w2.heap.size < (w2.alloc (.cells #[.int .i64 p.src, .int .i64 p.dst, .string p.txt] 40)).heap.size) :=
                ⟨by simp; omega, by simp⟩
          clear hn2 hf2 hbp hs2 hp2
          rcases hd with ⟨rfl, rfl, rfl, hno⟩ | ⟨i, rfl, hil, ⟨rfl, rfl, hw, rfl⟩ | ⟨rfl, hp, hw, rfl⟩⟩
          · clear hno
            go_wp2_with fail
            go_roundw
            case rel => exact ⟨j + 1, by omega, by go_num, f2, _, os, HO2.out, HB2.out, by omega, by omega, by omega, HSUB.out⟩
            case measure => simp [intOf]; omega
          · clear hw
            have HIL := Lib.hid hil
            go_wp2_with fail
            go_roundw
            case rel => exact ⟨j + 1, by omega, by go_num, f2, _, os, HO2.out, HB2.out, by simp; omega, by simp; omega, by omega, HSUB.out.drop i HIL.out⟩
            case measure => simp [intOf]; omega
          · clear hw
            have HPE := Lib.hid hp
            have HIL := Lib.hid hil
            clear hp
            have hmem : p ∈ os := by rw [HPE.out]; exact HSUB.out.mem i hil
            have hpos : 0 < os.length := List.length_pos_of_mem hmem
            obtain ⟨g, oc', hv, _, hg⟩ := HO2.out.2.1.form hpos
            simp only [Value.slice.injEq, true_and] at hv
            obtain ⟨rfl, rfl⟩ := hv
            have HMEM := Lib.hid hmem
            have HG := Lib.hid hg
            clear hmem hg
            go_wp2_with fail
            go_loopw [9, 66] (fun f i wq => ∃ n : Nat, n ≤ os.length ∧ i = .int .i64 n ∧ Found os p n f ∧ Below (w2.alloc (.cells #[.int .i64 p.src, .int .i64 p.dst, .string p.txt] 40)).heap.size (w2.alloc (.cells #[.int .i64 p.src, .int .i64 p.dst, .string p.txt] 40)) wq) (fun _ i _ => os.length - (intOf i).toNat)
            case atStart => exact ⟨0, by omega, rfl, .inl ⟨rfl, fun q hq => by omega⟩, Below.refl _ _⟩
            case round =>
              obtain ⟨n, hn, rfl, hfo, hbq⟩ := hrel
              have HFO := Lib.hid hfo
              have hoq := HO2.out.below HS2.out.1 hbq
              have hpq : wr.heap[w2.heap.size]? = some (.cells #[.int .i64 p.src, .int .i64 p.dst, .string p.txt] 40 (0, 0)) := (hbq.block _ HS2.out.2).trans HP2.out
              obtain ⟨c0, c1, c2, cf⟩ := box3 hpq
              have HOQ := Lib.hid hoq
              have HBQ := Lib.hid hbq
              clear hfo hoq hpq hbq
              by_cases hnl : n < os.length
              · obtain ⟨q0, q1, q2⟩ := pk_cells rfl HOQ.out.2.1 n hnl
                obtain ⟨P0, hP0⟩ : ∃ P0, P0 = os.getD n Pk.zero := ⟨_, rfl⟩
                rw [← hP0] at q0 q1 q2
                have HP0 := Lib.hid hP0
                clear hP0
                go_wp2_with fail
                cases hsm : P0.same p
                · have HSM := Lib.hid hsm
                  go_quiet (fail)
                  go_wp2_with fail
                  go_roundw
                  case rel =>
                    refine ⟨n + 1, by omega, by go_num, ?_, HBQ.out.trans ⟨rfl, rfl, rfl, Nat.le_refl _, fun _ _ => rfl⟩⟩
                    rcases HFO.out with ⟨h1, h2⟩ | ⟨q, h1, h2, h3⟩
                    · refine .inl ⟨h1, fun q hq => ?_⟩
                      rcases Nat.lt_succ_iff_lt_or_eq.1 hq with hq | rfl
                      · exact h2 q hq
                      · intro he; rw [← HP0.out] at he; rw [(Pk.same_iff _ _).2 he] at hsm; cases hsm
                    · exact .inr ⟨q, by omega, h2, h3⟩
                  case measure => simp [intOf]; omega
                · have hsq := (Pk.same_iff _ _).1 hsm
                  have HSQ := Lib.hid hsq
                  clear hsq
                  go_quiet (fail)
                  go_wp2_with fail
                  go_roundw
                  case rel => exact ⟨n + 1, by omega, by go_num, .inr ⟨n, by omega, rfl, HP0.out.symm.trans HSQ.out⟩, HBQ.out.trans ⟨rfl, rfl, rfl, Nat.le_refl _, fun _ _ => rfl⟩⟩
                  case measure => simp [intOf]; omega
              · obtain rfl : n = os.length := by omega
                obtain ⟨F, hF, rfl, hpF⟩ : ∃ F : Nat, F < os.length ∧ u9 = .int .i64 F ∧ os.getD F Pk.zero = p := by
                  rcases HFO.out with ⟨_, h2⟩ | ⟨q, h1, h2, h3⟩
                  · exfalso
                    obtain ⟨q, hq, he⟩ := List.getElem_of_mem HMEM.out
                    refine h2 q hq ?_
                    rw [List.getD_eq_getElem?_getD, List.getElem?_eq_getElem hq]; exact he
                  · exact ⟨q, h1, h2, h3⟩
                have HPF := Lib.hid hpF
                clear hpF
                go_wp2_with fail
                obtain ⟨i0, hi, hz0, hz1, hz2⟩ := info_parts info40
                have hown := HOQ.out.2.1
                have hg := (hown.lt g rfl).2
                have hsw : W.heap.size ≤ wr.heap.size := Nat.le_trans HS2.out.1 HBQ.out.size
                have hocl : os.length ≤ oc := by
                  rcases hown.2 with ⟨h', _⟩ | ⟨g', cap', cur, h', _, _, h2, _⟩
                  · simp at h'
                  · simp only [Value.slice.injEq, Option.some.injEq, Addr.mk.injEq, and_true, true_and] at h'
                    obtain ⟨rfl, rfl⟩ := h'; exact h2
                have hocm : oc ≤ maxLen := by
                  rcases hown.2 with ⟨h', _⟩ | ⟨g', cap', cur, h', _, _, h2, h3, _⟩
                  · simp at h'
                  · simp only [Value.slice.injEq, Option.some.injEq, Addr.mk.injEq, and_true, true_and] at h'
                    obtain ⟨rfl, rfl⟩ := h'; exact h3
                unfold maxLen at hocm
                have S0 : Hid (∀ w5 : World, w5.heap[g]? = wr.heap[g]? → ∀ q u, (pkCells (os.take F))[q]? = some u → w5.cell? ((⟨g, 0, none⟩ : Addr).add q) = some u) := by
                  intro w5 h5 q u hu
                  have e1 : (⟨g, 0, none⟩ : Addr).add q = ⟨g, q, none⟩ := by rw [Addr.add_lit, Nat.zero_add]
                  rw [e1, World.cell?_of_block (w := wr) h5, hown.cellAt q (by
                    have := (List.getElem?_eq_some_iff.1 hu).1
                    rw [pkCells_length, List.length_take] at this
                    omega)]
                  rw [← pkCells_take os F (by omega), List.getElem?_take] at hu
                  split at hu
                  · exact hu
                  · cases hu
                have S1 : Hid ((pkCells (os.take F)).length = F * 3) := by unfold Hid; rw [pkCells_length, List.length_take]; omega
                have S2 : Hid ((pkCells (os.drop (F + 1))).length = (os.length - (F + 1)) * 3) := by unfold Hid; rw [pkCells_length, List.length_drop]
                obtain ⟨D, hD, S3⟩ : ∃ D : Addr, (if oc = F + 1 then some (⟨g, 0, none⟩ : Addr) else some ⟨g, (F + 1) * 3, none⟩) = some D ∧
                    Hid (∀ w5 : World, w5.heap[g]? = wr.heap[g]? → ∀ q u, (pkCells (os.drop (F + 1)))[q]? = some u → w5.cell? (D.add q) = some u) := by
                  by_cases hcap : oc = F + 1
                  · refine ⟨⟨g, 0, none⟩, by simp [hcap], fun w5 h5 q u hu => ?_⟩
                    have : (pkCells (os.drop (F + 1))).length = 0 := by rw [S2.out]; omega
                    rw [List.length_eq_zero_iff.1 this] at hu
                    simp at hu
                  · refine ⟨⟨g, (F + 1) * 3, none⟩, by simp [hcap], fun w5 h5 q u hu => ?_⟩
                    rw [Addr.add_lit, World.cell?_of_block (w := wr) h5]
                    rw [← pkCells_drop os (F + 1) (by omega), List.getElem?_drop] at hu
                    have hlt : (F + 1) * 3 + q < os.length * 3 := by
                      have := (List.getElem?_eq_some_iff.1 hu).1
                      rwa [pkCells_length] at this
                    rw [hown.cellAt _ hlt]; exact hu
                have HGW := Lib.hid hg
                have HSW := Lib.hid hsw
                clear hown hg hsw
                have S4 : Hid (∀ u ∈ pkCells (os.take F), u.oneCell' = true) := pkCells_one _
                have S5 : Hid (∀ u ∈ pkCells (os.drop (F + 1)), u.oneCell' = true) := pkCells_one _
                have S6 := Lib.hid (owns_empty wr.drew)
                have hFc : F ≤ oc := by omega
                have hwr : IntKind.i64.wrap ((F : Int) + 1) = (F : Int) + 1 := by rw [IntKind.wrap_i64]; omega
                have hp0 : (0 : Int) ≤ (F : Int) + 1 := by omega
                have hp1 : (F : Int) + 1 ≤ (os.length : Int) := by omega
                have hp2 : ((F : Int) + 1).toNat = F + 1 := by omega
                have hF400 : os.length ≤ 400 := by omega
                go_region_law (first
                  | (refine step_append_any rfl (.tmp 79) (.tmp 82) 45 rfl 40 i0 _ 3 32 Try.underlying45 hi hz0 hz1 hz2 rfl (by decide) wr.heap.size 0 0 [] (by simp [Act.eval, Act.put]) S6.out ⟨g, 0, none⟩ F oc (pkCells (os.take F)) (by simp [Act.eval, Act.put]) S1.out (S0.out _ (Below.heap_alloc _ _ _ HGW.out)) S4.out (by simp only [maxLen]; omega) (by omega) F (by omega) ?_; intro g5 cap5 w5 hown5 hbes5 hat5)
                  | (refine step_append_any rfl (.tmp 83) (.tmp 87) 45 rfl 40 i0 _ 3 32 Try.underlying45 hi hz0 hz1 hz2 rfl (by decide) g5 F cap5 _ (by simp [Act.eval, Act.put]) hown5 D (os.length - (F + 1)) (oc - (F + 1)) (pkCells (os.drop (F + 1))) (by simp [Act.eval, Act.put]) S2.out (S3.out _ ((hbes5.2 g (show g < (wr.alloc (.cells #[] 40)).heap.size by simp; have := HGW.out; omega) (by have := HGW.out; omega)).trans (Below.heap_alloc _ _ _ HGW.out))) S5.out (by simp only [maxLen]; omega) (by omega) (os.length - 1) (by omega) ?_; intro g6 cap6 w6 hown6 hbes6 hat6))
                all_goals
                  have hz5 : wr.heap.size + 1 ≤ w5.heap.size := by
                    have h0 : (wr.alloc (.cells #[] 40)).heap.size ≤ w5.heap.size := hbes5.1.2.2.2
                    simpa using h0
                  have hz6 : w5.heap.size ≤ w6.heap.size := hbes6.1.2.2.2
                  have hg5 : wr.heap.size ≤ g5 := by
                    rcases hat5 with h0 | h0
                    · omega
                    · have h1 : g5 = (wr.alloc (.cells #[] 40)).heap.size := h0
                      simp at h1; omega
                  have hk5 : ∀ q, q < wr.heap.size → w5.heap[q]? = wr.heap[q]? := fun q hq => by
                    have hql : q < (wr.alloc (.cells #[] 40)).heap.size := by simp; omega
                    exact (hbes5.2 q hql (by omega)).trans (Below.heap_alloc _ _ _ hq)
                  have hgr := HOQ.out.grown HSW.out (os' := os.eraseIdx F) (by rw [List.length_eraseIdx, if_pos hF]) (by rw [List.eraseIdx_eq_take_drop_succ, pkCells_append]; exact hown6)
                    (fun q hq hne => (hbes6.2 q (by omega) (by omega)).trans (hk5 q hq)) (.inr (by omega))
                    ⟨hbes6.1.1.trans hbes5.1.1, hbes6.1.2.1.trans hbes5.1.2.1, hbes6.1.2.2.1.trans hbes5.1.2.2.1, by omega⟩
                  clear hz5 hz6 hg5 hk5
                  have HO6 := Lib.hid hgr.1
                  have HB6 := Lib.hid (hgr.2 W (Nat.le_refl _) (Nat.le_refl _) (HB2.out.trans (HBQ.out.mono HS2.out.1)))
                  clear hgr hown5 hbes5 hat5 hown6 hbes6 hat6 hi hz0 hz1 hz2 hD c0 c1 c2 cf
                  go_wp2_with fail
                  go_roundw
                  case rel => exact ⟨j + 1, by omega, by go_num, f2, _, _, HO6.out, HB6.out, by simp; omega, by simp; omega, by rw [List.length_eraseIdx, if_pos hF]; omega, HSUB.out.both i F HIL.out hF (HPF.out.trans HPE.out)⟩
                  case measure => simp [intOf]; omega
        · by_cases k2 : k = 2
          · subst k2
            go_wp2_with fail
            refine (lose_any fq B s _ x HOW.out.1).mono ?_
            rintro e w2 ⟨f2, s2, hn2, hf2, hd⟩
            have HO2 := Lib.hid (HOW.out.did HSZ.out.1 hn2 hf2)
            have HB2 := Lib.hid (HBW.out.trans (hf2.below HSZ.out.1 HOW.out.2.2.2))
            clear hn2 hf2
            rcases hd with ⟨rfl, rfl, hroom⟩ | ⟨i, rfl, hil, rfl, rfl⟩
            · go_wp2_with fail
              go_roundw
              case rel => exact ⟨j + 1, by omega, by go_num, f2, _, os, HO2.out, HB2.out, by omega, by omega, by omega, HSUB.out⟩
              case measure => simp [intOf]; omega
            · have HIL := Lib.hid hil
              go_wp2_with fail
              go_roundw
              case rel => exact ⟨j + 1, by omega, by go_num, f2, _, os, HO2.out, HB2.out, by simp; omega, by simp; omega, by omega, HSUB.out.drop i HIL.out⟩
              case measure => simp [intOf]; omega
          · by_cases k3 : k = 3
            · subst k3
              go_wp2_with fail
              refine (look_any fq B s _ x HOW.out.1).mono ?_
              rintro e w2 ⟨hb2, p, b, rfl, hd⟩
              have hbp : Below w2.heap.size w2 (w2.alloc (.cells #[.int .i64 p.src, .int .i64 p.dst, .string p.txt] 40)) := (Below.refl _ w2).alloc (Nat.le_refl _) _
              have hs2 : W.heap.size ≤ w2.heap.size ∧ wr.heap.size < w2.heap.size := ⟨Nat.le_trans HSZ.out.1 hb2.size, Nat.lt_of_lt_of_le HSZ.out.2 hb2.size⟩
              have HO2 := Lib.hid ((HOW.out.below HSZ.out.1 hb2).below hs2.1 hbp)
              have HB2 : Hid (Below W.heap.size W (w2.alloc (.cells #[.int .i64 p.src, .int .i64 p.dst, .string p.txt] 40))) := (HBW.out.trans (hb2.mono HSZ.out.1)).alloc hs2.1 _
              have hx2 : (w2.alloc (.cells #[.int .i64 p.src, .int .i64 p.dst, .string p.txt] 40)).heap[wr.heap.size]? = some (.cells #[.int .i64 3, .int .i64 x, .int .i64 y, .string t] 47 (0, 0)) := (Below.heap_alloc _ _ _ hs2.2).trans ((hb2.block _ HSZ.out.2).trans HX.out)
              have HP2 : Hid ((w2.alloc (.cells #[.int .i64 p.src, .int .i64 p.dst, .string p.txt] 40)).heap[w2.heap.size]? = some (.cells #[.int .i64 p.src, .int .i64 p.dst, .string p.txt] 40 (0, 0))) := heap_alloc_new w2 _
              have HS2 : Hid (W.heap.size ≤ (w2.alloc (.cells #[.int .i64 p.src, .int .i64 p.dst, .string p.txt] 40)).heap.size ∧ w2.heap.size < (w2.alloc (.cells #[.int .i64 p.src, .int .i64 p.dst, .string p.txt] 40)).heap.size ∧ w2.heap.size ∉ fq) :=
                ⟨by have := hs2.1; simp; omega, by simp, fun h => by have := (HOW.out.below HSZ.out.1 hb2).1.valid _ h; omega⟩
              obtain ⟨b0, b1, b2, b3⟩ := box4 hx2
              have HD := Lib.hid hd
              clear hb2 hbp hs2 hx2 hd
              go_wp2_with fail
              refine (double_any fq B s _ x HO2.out.1).mono ?_
              rintro e w3 ⟨f3, s3, hn3, hf3, hd3⟩
              have HO3 := Lib.hid (HO2.out.did HS2.out.1 hn3 hf3)
              have HB3 := Lib.hid (HB2.out.trans (hf3.below HS2.out.1 HO2.out.2.2.2))
              have hx3 : w3.heap[w2.heap.size]? = some (.cells #[.int .i64 p.src, .int .i64 p.dst, .string p.txt] 40 (0, 0)) := (hf3.block _ HS2.out.2.1 HS2.out.2.2).trans HP2.out
              have HS3 : Hid (W.heap.size ≤ w3.heap.size) := Nat.le_trans HS2.out.1 hf3.size
              clear hn3 hf3 b0 b1 b2 b3
              rcases hd3 with ⟨rfl, rfl, hno⟩ | ⟨i, rfl, hil, hroom, rfl, rfl⟩
              · clear hx3 hno
                go_wp2_with fail
                go_roundw
                case rel => exact ⟨j + 1, by omega, by go_num, f3, _, os, HO3.out, HB3.out, by omega, by omega, by omega, HSUB.out⟩
                case measure => simp [intOf]; omega
              · obtain ⟨rfl, hp⟩ : b = true ∧ p = s.ps.getD i Pk.zero := by
                  rcases HD.out with ⟨_, _, h⟩ | ⟨h1, i', h2, _, h3⟩
                  · omega
                  · have : i = i' := by omega
                    subst this; exact ⟨h1, h3⟩
                have HPE := Lib.hid hp
                clear hp
                obtain ⟨c0, c1, c2, cf⟩ := box3 hx3
                obtain ⟨i0, hi, hz0, hz1, hz2⟩ := info_parts info40
                have hown := HO3.out.2.1
                clear hx3
                go_wp2_with (at_builtin; go_loud (refine wpList_append_lies _ rfl (.tmp 110) (.tmp 112) 45 rfl 0 40 i0 _ 3 32 Try.underlying45 hi hz0 hz1 hz2 rfl (by decide) _ os.length _ rfl (hown.alloc _) ⟨w3.heap.size, 0, none⟩ 1 1 (Pk.cells p) rfl rfl ?c2 ?c3 ?c4 ?c5 ?c6 ?c7 _ rfl ?c8))
                case c2 => exact new_cells w3 p (0, 0)
                case c3 => exact one_cells p
                case c4 => omega
                case c5 => simp only [maxLen]; omega
                case c6 => omega
                case c7 => omega
                case c8 =>
                  intro g cap' w4 hown' hgrow hat hg4
                  rw [← pkCells_put os p] at hown'
                  have hgr := HO3.out.grown HS3.out (os' := os ++ [p]) (by simp) hown' (fun q hq hne => (hgrow.block q (by simp; omega) hne).trans (Below.heap_alloc _ _ _ hq)) (hat.imp id (fun h => by omega)) ⟨hgrow.os, hgrow.tape, hgrow.output, by have := hgrow.size; simp at this; omega⟩
                  have HO4 := Lib.hid hgr.1
                  have HB4 := Lib.hid (hgr.2 W (Nat.le_refl _) (Nat.le_refl _) HB3.out)
                  clear hown hown' hgrow hat hgr c0 c1 c2 cf hi hz0 hz1 hz2 i0
                  go_wp2_with fail
                  go_roundw
                  case rel => exact ⟨j + 1, by omega, by go_num, f3, _, os ++ [p], HO4.out, HB4.out, by simp; omega, by simp; omega, by simp; omega, by rw [← HPE.out]; exact HSUB.out.put _⟩
                  case measure => simp [intOf]; omega
            · by_cases k4 : k = 4
              · subst k4
                go_wp2_with fail
                refine (cut_calls fq B s _ x y HOW.out.1).mono ?_
                rintro e w2 ⟨f2, rfl, hn2, hf2⟩
                have HO2 := Lib.hid (HOW.out.did HSZ.out.1 hn2 hf2)
                have HB2 := Lib.hid (HBW.out.trans (hf2.below HSZ.out.1 HOW.out.2.2.2))
                clear hn2 hf2
                go_wp2_with fail
                go_roundw
                case rel => exact ⟨j + 1, by omega, by go_num, f2, _, os, HO2.out, HB2.out, by simp; omega, by simp; omega, by omega, HSUB.out⟩
                case measure => simp [intOf]; omega
              · go_wp2_with fail
                refine (join_calls fq B s _ x y HOW.out.1).mono ?_
                rintro e w2 ⟨f2, rfl, hn2, hf2⟩
                have HO2 := Lib.hid (HOW.out.did HSZ.out.1 hn2 hf2)
                have HB2 := Lib.hid (HBW.out.trans (hf2.below HSZ.out.1 HOW.out.2.2.2))
                clear hn2 hf2
                go_wp2_with fail
                go_roundw
                case rel => exact ⟨j + 1, by omega, by go_num, f2, _, os, HO2.out, HB2.out, by simp; omega, by simp; omega, by omega, HSUB.out⟩
                case measure => simp [intOf]; omega
    · obtain rfl : j = len := by omega
      obtain ⟨fq, s, os, how, hbw, hsent, hcame, hosl, hsub⟩ := HREL.out
      obtain ⟨hN, hO, ⟨oa, oc, rfl, hfar⟩, hbase⟩ := how
      have HN := Lib.hid hN
      have HBW := Lib.hid hbw
      have hle : (s.ps.length : Int) ≤ (os.length : Int) := by have := hsub.le; omega
      clear hN hO hfar hbase hbw hsub HREL
      go_wp2_with fail
      refine (len_calls _ _ _ _ HN.out).mono ?_
      rintro e w' ⟨rfl, rfl⟩
      go_wp2_with fail
      go_ret
      exact ⟨rfl, HBW.out⟩


set_option maxRecDepth 100000 in
set_option maxHeartbeats 400000 in
theorem walk_none (W : World) :
    Calls Try.prog 9 #[.slice none 0 0] W fun e W' => e = .returned (.bool true) ∧ Below W.heap.size W W' := by
  go_enter Try.func9, Try.ntmps9
  go_wp2_with fail
  refine (awake_calls _).mono ?_
  rintro e wa ⟨rfl, hb⟩
  have HB := Lib.hid hb
  clear hb
  go_wp2_with fail
  refine (new_calls _).mono ?_
  rintro e w1 ⟨B, fp, rfl, hn1, hf1⟩
  have HN1 := Lib.hid hn1
  have HF1 := Lib.hid (HB.out.trans ((hf1.below (Nat.le_refl _) (by simp)).mono HB.out.size))
  clear hn1 hf1
  go_wp2_with fail
  go_loopw [4, 21] (fun v i wr => v = .slice none 0 0 ∧ i = .int .i64 0 ∧ wr = w1) (fun _ _ _ => 0)
  case atStart => exact ⟨rfl, rfl, rfl⟩
  case round =>
    obtain ⟨rfl, rfl, rfl⟩ := hrel
    go_wp2_with fail
    refine (len_calls _ _ _ _ HN1.out).mono ?_
    rintro e w' ⟨rfl, rfl⟩
    go_wp2_with fail
    go_ret
    exact ⟨rfl, HF1.out⟩

set_option maxRecDepth 100000 in
set_option maxHeartbeats 400000 in
theorem walk_long (A : Option Addr) (len cap : Nat) (hl : 400 < len) (W : World) :
    Calls Try.prog 9 #[.slice A len cap] W fun e W' => e = .returned (.bool true) ∧ Below W.heap.size W W' := by
  go_enter Try.func9, Try.ntmps9
  go_wp2_with fail
  refine (awake_calls _).mono ?_
  rintro e wa ⟨rfl, hb⟩
  have HB := Lib.hid hb
  clear hb
  go_wp2_with fail
  go_ret
  exact ⟨rfl, HB.out⟩

/-! ### The row's step (as the guide's shell writes it, with 'Below' and a slice of structs handed back unopened) -/
set_option maxRecDepth 100000 in
theorem lifted (os : Os) (started : os.Started) (H : Type) (enc : TypeId × Value → H) :
    ReturnsInHanded {} Try.checked os 9 .any (Rows.netOnlySpec.pre6 enc Try.prog Try.f9 Rows.netOnlyRow.domain false) (Rows.netOnlySpec.post enc Try.prog Try.f9 false true false false) := by
  refine returnsInHanded_of_change (C := Try.checked) own started (by kernel_rfl) Try.func9
    (ChangeSpec.witness6 (enc := enc) (C := Try.checked) false ⟨#[], #[.slice none 0 0], []⟩ 8 (by kernel_rfl) (by kernel_rfl) (by kernel_rfl) (by kernel_rfl)) ?_
  intro W base args ds gs before hval0 hW hcnd _
  have hval : ∀ (j : Nat) t v, Try.f9.params[j]? = some t → args[j]? = some v → Value.okWide Try.prog W .any base t v := hval0
  have hW' := hW
  obtain ⟨p, q, hA0, hV, rfl, hfz, hnd⟩ := hW
  have hA : DataW.TrodAll enc Try.prog W 0 (fun _ => true) true Try.f9.params.toList args.toList ds p := hA0
  rw [Try.params9] at hA hval
  obtain ⟨v0, vs0, d0, ds0, p0, q0, hargs, rfl, rfl, h0, r0⟩ := trodAll_cons hA
  obtain ⟨rfl, rfl, rfl⟩ := trodAll_nil r0
  obtain rfl : args = #[v0] := by cases args; simp_all
  obtain ⟨rfl, rfl⟩ := trodVars_none hV
  have hlt : ∀ x ∈ p0, x.block < W.heap.size := fun x hx => by simpa using hW'.lt x (by simpa using hx)
  have hcalls : Calls Try.prog 9 #[v0] W fun e W' => e = .returned (.bool true) ∧ Below W.heap.size W W' := by
    rcases open_ops h0 (okWide_slice Try.underlying44 (hval 0 44 v0 rfl rfl)) with rfl | ⟨a, len, cap, rfl, hl, _, hb, ho⟩
    · exact walk_none W
    · by_cases h4 : len ≤ 400
      · exact walk a len cap h4 hl W hb ho
      · exact walk_long (some a) len cap (by omega) W
  clear hA0 hval0
  refine hcalls.mono fun e W' ⟨he, bel⟩ => ?_
  subst he
  exact ⟨_, rfl, _, _, _, [], _, [], hW', trodAll_mk1 (shut_bool Try.underlying4 _), trodAll_mk1 (Below.trod laidOut (by kernel_rfl) (by decide +kernel) h0 bel hlt), rfl, bel.frame _, fun h => by cases h⟩

theorem over : Rows.netOnlyRow.holds Try.pinned (OpenSpec.ofChange Rows.netOnlySpec) :=
  OpenClaim.holds_of_wide 9 Try.f9 rfl rfl rfl rfl rfl rfl rfl ⟨rfl, rfl, rfl, rfl, rfl⟩ rfl rfl rfl rfl rfl (by kernel_rfl) Try.func9 (by kernel_rfl)
    (of_decide_eq_true (by kernel_rfl)) (by unfold Func.isWrapper; first | (rw [if_pos (by decide +kernel)]; kernel_rfl) | (rw [if_neg (by decide +kernel)]; exact ⟨rfl, rfl⟩))
    (fun os started H enc _ => lifted os started H enc)

/-- The statement. -/
theorem proved : Rows.NetOnlySaid :=
  over
#print axioms proved
end Go.Proofs.Ytjeiakfdjbnkaaa.netOnly

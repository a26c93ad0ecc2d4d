/-
  The walk of the law NetPlays over a script that is not nil and has at most 400 operations.
-/
import Derived.Test.YtjeiakfdjbnkaaaDoesAll
import Derived.WalkKit
import Derived.WalkSpells
import Derived.WalkLawsBesides
import Derived.Below
import Derived.Lib.Hide
import Derived.Outline
import Derived.BigQuiet
import Derived.Deep.RegionHeld3
import Derived.Deep.DrawnRows
import Derived.OpenShut
import Derived.ShutString
import Derived.ChangeOld
import Derived.ProofKit
import Derived.Carry
namespace Go.Proofs.Ytjeiakfdjbnkaaa.netPlays
open Go.ChangeShapes Go.WideShapes Go.ChangeAt Go.RowKit
set_option linter.unusedVariables false
attribute [local go_sem ↓] Go.wp_at_zero Go.wp_at_succ

/-- What is left of a region that draws its order goes, where it only reads, by one walk in the text's order. -/
theorem any_quiet_from {P : Program} {md : Region.Mode} {ops : Array Oper} {Q : Exit → Act → World → Prop} {fuel : Nat} {listed : Array Bool} {a : Act} {w : World} (k : Nat) (C : World → Prop) (hn : Region.noSelect ops = true)
    (hl : fuel = (ops.toList.drop k).length) (hlex : Region.lexFrom md ops (ops.toList.drop k).length k listed = true) (hC : C w) (h : wpQuiet P ops C (fun a' => ∀ w', C w' → Q .normal a' w') (ops.toList.drop k) a) : wpAny P md ops Q fuel listed a w := by
  subst hl
  refine wpAny_of_quiet (Q := fun a' => ∀ w', C w' → Q .normal a' w') (fun _ w' hw' h => h w' hw') _ _ _ _ hC ?_
  exact wpAnyQ_lex hn (ops.toList.drop k) k listed a (fun j => by simp) hlex h

theorem ref_cells {W w : World} {f0 fn fr : List Nat} {b0 B R : Nat} {o : OpV} {s : NS} {r : RS} (h : DoAt W f0 b0 o B R w fn fr s r) :
    ∃ la lc, w.cell? ⟨R, 0, none⟩ = some (.slice la r.ps.length lc) ∧ w.cell? ⟨R, 2, none⟩ = some (.int .i64 r.sent) ∧ w.cell? ⟨R, 3, none⟩ = some (.int .i64 r.came) := by
  obtain ⟨la, lc, wa, wc, _, _, hR, _⟩ := h.side.2.1
  obtain ⟨e0, e1, e2, e3, ef⟩ := refCell hR
  exact ⟨la, lc, e0, e2, e3⟩

/-- The worlds behind the law's does: what the rest of the test reads. -/
def PlayC (W : World) (f0 : List Nat) (b0 : Nat) (o : OpV) (B R : Nat) (f2 f3 : List Nat) (ps : List Pk) (cut ws : List (Int × Int)) (sent came : Nat) (la : Option Addr) (lc : Nat) (w' : World) : Prop :=
  (w'.cell? ⟨b0, 1, none⟩ = some (.int .i64 o.a) ∧ w'.cell? ⟨b0, 2, none⟩ = some (.int .i64 o.b) ∧ w'.cell? ⟨R, 0, none⟩ = some (.slice la ps.length lc) ∧ w'.cell? ⟨R, 2, none⟩ = some (.int .i64 sent) ∧ w'.cell? ⟨R, 3, none⟩ = some (.int .i64 came)) ∧
    DoAt W f0 b0 o B R w' f2 f3 ⟨ps, cut, sent, came⟩ ⟨ps, ws, sent, came⟩

theorem PlayC.kept {W : World} {f0 : List Nat} {b0 : Nat} {o : OpV} {B R : Nat} {f2 f3 : List Nat} {ps : List Pk} {cut ws : List (Int × Int)} {sent came : Nat} {la : Option Addr} {lc : Nat} {w w' : World}
    (h : PlayC W f0 b0 o B R f2 f3 ps cut ws sent came la lc w) (hb : Below w.heap.size w w') : PlayC W f0 b0 o B R f2 f3 ps cut ws sent came la lc w' := by
  have hd := h.2.below hb
  have hR : w'.heap[R]? = w.heap[R]? := by
    obtain ⟨_, _, _, _, _, _, hR, _⟩ := h.2.side.2.1
    exact hb.block _ (Array.getElem?_eq_some_iff.1 hR).1
  exact ⟨⟨hd.cells.2.1, hd.cells.2.2.1, (World.cell?_of_block hR).trans h.1.2.2.1, (World.cell?_of_block hR).trans h.1.2.2.2.1, (World.cell?_of_block hR).trans h.1.2.2.2.2⟩, hd⟩

set_option maxRecDepth 100000 in
set_option maxHeartbeats 4000000 in
theorem walk (A : Addr) (len cap : Nat) (hl : len ≤ 400) (hc : len ≤ cap) (W : World) (hA : 0 < len → A.block < W.heap.size) (hops : ∀ i, i < len → ∃ o : OpV, OpAt W A i o) :
    Calls Try.prog 11 #[.slice (some A) len cap] W fun e W' => e = .returned (.bool true) ∧ Below W.heap.size W W' := by
  have HOP := Lib.hid hops
  have HA := Lib.hid hA
  clear hops hA
  go_enter Try.func11, Try.ntmps11
  go_wp2_with fail
  refine (awake_calls _).mono ?_
  rintro e wa ⟨rfl, hb⟩
  have HB := Lib.hid hb
  clear hb
  go_wp2_with fail
  refine (new_calls _).mono ?_
  rintro e w1 ⟨B, fp, rfl, hn1, hf1⟩
  have HR0 := Lib.hid (PlayRel.start HB.out hn1 hf1)
  clear hn1 hf1
  go_wp2_with fail
  generalize w1.heap.size = R at HR0 ⊢
  go_loopw [17] (fun i wr => ∃ k : Nat, k ≤ len ∧ i = .int .i64 k ∧ PlayRel W B R k wr) (fun i _ => len - (intOf i).toNat)
  case atStart => exact ⟨0, by omega, rfl, HR0.out⟩
  case round =>
    obtain ⟨j, hj, rfl, hrel⟩ := hrel
    have HREL := Lib.hid hrel
    clear hrel HR0
    by_cases hlt : j < len
    · obtain ⟨fn, fr, s, r, hside, hlike, hbw, hbase, hsent, hcame, hways⟩ := HREL.out
      obtain ⟨⟨k, x, y, t⟩, hop⟩ := HOP.out j hlt
      have hop' : OpAt wr A j ⟨k, x, y, t⟩ := hop.kept (hbw.block _ (HA.out (by omega)))
      obtain ⟨o0, o1, o2, o3⟩ := hop'
      have hd := DoAt.start ⟨k, x, y, t⟩ hside
      have hd2 := hd.drew
      have HL := Lib.hid hlike
      have HBW := Lib.hid hbw
      have HBASE := Lib.hid hbase
      obtain ⟨c0, c1, c2, c3⟩ := hd.cells
      have H5 : s.sent < 5000 ∧ s.came < 5000 ∧ r.ws.length < 5000 := ⟨by omega, by omega, by omega⟩
      clear hop HREL hside hlike hbw hbase hd
      go_wp2_with fail
      refine wp_region_any (by kernel_rfl) ?_
      try change wpAny _ _ _ _ _ _ _ (World.drew _)
      refine wpAny_take (i := 0) (v := ?_) rfl (by kernel_rfl) (by kernel_rfl) (by kernel_rfl) (fun _ _ _ h => h) (Or.inl ⟨by rfl, ?_⟩) ?_
      rotate_left
      · intro w; go_simp; with_reducible rfl
      refine wpAny_take (i := 1) (v := ?_) rfl (by kernel_rfl) (by kernel_rfl) (by kernel_rfl) (fun _ _ _ h => h) (Or.inl ⟨by rfl, ?_⟩) ?_
      rotate_left
      · intro w; go_simp; with_reducible rfl
      refine wpAny_ready (rs := [2]) (by kernel_rfl) (by simp) ?_
      refine AllReady.cons rfl (fun K hK => ?_) AllReady.nil
      go_simp
      refine hK _ _ ?_
      clear hK K
      refine wpAny_ready (rs := [3]) (by kernel_rfl) (by simp) ?_
      refine AllReady.cons rfl (fun K hK => ?_) AllReady.nil
      go_simp
      refine (does_do wr (fn ++ fr) wr.heap.size ⟨k, x, y, t⟩ B R _ fn fr s r hd2 HL.out H5.1 H5.2.1 H5.2.2).mono ?_
      rintro e w2 ⟨rfl, f2, f3, ps, cut, ws, sent, came, h3, HW⟩
      obtain ⟨la, lc, e0, e2, e3⟩ := ref_cells h3
      refine hK _ _ ?_
      clear hK K
      refine any_quiet_from 4 (PlayC wr (fn ++ fr) wr.heap.size ⟨k, x, y, t⟩ B R f2 f3 ps cut ws sent came la lc) (by kernel_rfl) (by kernel_rfl) (by kernel_rfl) ⟨⟨h3.cells.2.1, h3.cells.2.2.1, e0, e2, e3⟩, h3⟩ ?_
      simp only [List.drop_succ_cons, List.drop_zero]
      clear hd2 c0 c1 c2 c3 o0 o1 o2 o3 e0 e2 e3
      (go_big_quiet_want; go_big_quiet_op; first | go_big_quiet_on | (refine ⟨_, fun _ _ => rfl, ?_⟩; go_big_quiet_on))
      (go_big_quiet_want; go_big_quiet_op; first | go_big_quiet_on | (refine ⟨_, fun _ _ => rfl, ?_⟩; go_big_quiet_on))
      (go_big_quiet_want; go_big_quiet_op; first | go_big_quiet_on | (refine ⟨_, fun _ _ => rfl, ?_⟩; go_big_quiet_on))
      go_big_quiet_want
      refine ⟨.int .i64 ps.length, fun w' hw' => ?_, ?_⟩
      · unfold Oper.quietAt
        go_simp
        exact (len_do wr (fn ++ fr) wr.heap.size ⟨k, x, y, t⟩ B R _ _ _ _ _ hw'.2).mono fun e w'' ⟨he, hw⟩ => ⟨he, hw ▸ hw'⟩
      simp only [Act.put, List.setIfInBounds_toArray, List.set_cons_zero, List.set_cons_succ]
      go_big_quiet_on
      (go_big_quiet_want; go_big_quiet_op; first | go_big_quiet_on | (refine ⟨_, fun _ _ => rfl, ?_⟩; go_big_quiet_on))
      (go_big_quiet_want; go_big_quiet_op; first | go_big_quiet_on | (refine ⟨_, fun _ _ => rfl, ?_⟩; go_big_quiet_on))
      (go_big_quiet_want; go_big_quiet_op; first | go_big_quiet_on | (refine ⟨_, fun _ _ => rfl, ?_⟩; go_big_quiet_on))
      go_big_quiet_want
      refine ⟨.slice la ps.length lc, fun w' hw' => ?_, ?_⟩
      · have hc := hw'.1.2.2.1
        clear hw'
        unfold Oper.quietAt
        go_simp
      simp only [Act.put, List.setIfInBounds_toArray, List.set_cons_zero, List.set_cons_succ]
      go_big_quiet_on
      (go_big_quiet_want; go_big_quiet_op; first | go_big_quiet_on | (refine ⟨_, fun _ _ => rfl, ?_⟩; go_big_quiet_on))
      (go_big_quiet_want; go_big_quiet_op; first | go_big_quiet_on | (refine ⟨_, fun _ _ => rfl, ?_⟩; go_big_quiet_on))
      (go_big_quiet_want; go_big_quiet_op; first | go_big_quiet_on | (refine ⟨_, fun _ _ => rfl, ?_⟩; go_big_quiet_on))
      (go_big_quiet_want; go_big_quiet_op; first | go_big_quiet_on | (refine ⟨_, fun _ _ => rfl, ?_⟩; go_big_quiet_on))
      (go_big_quiet_want; go_big_quiet_op; first | go_big_quiet_on | (refine ⟨_, fun _ _ => rfl, ?_⟩; go_big_quiet_on))
      go_big_quiet_want
      refine ⟨.int .i64 sent, fun w' hw' => ?_, ?_⟩
      · unfold Oper.quietAt
        go_simp
        exact (sent_do wr (fn ++ fr) wr.heap.size ⟨k, x, y, t⟩ B R _ _ _ _ _ hw'.2).mono fun e w'' ⟨he, hw⟩ => ⟨he, hw ▸ hw'⟩
      simp only [Act.put, List.setIfInBounds_toArray, List.set_cons_zero, List.set_cons_succ]
      go_big_quiet_on
      (go_big_quiet_want; go_big_quiet_op; first | go_big_quiet_on | (refine ⟨_, fun _ _ => rfl, ?_⟩; go_big_quiet_on))
      (go_big_quiet_want; go_big_quiet_op; first | go_big_quiet_on | (refine ⟨_, fun _ _ => rfl, ?_⟩; go_big_quiet_on))
      (go_big_quiet_want; go_big_quiet_op; first | go_big_quiet_on | (refine ⟨_, fun _ _ => rfl, ?_⟩; go_big_quiet_on))
      go_big_quiet_want
      refine ⟨.int .i64 sent, fun w' hw' => ?_, ?_⟩
      · have hc := hw'.1.2.2.2.1
        clear hw'
        unfold Oper.quietAt
        go_simp
      simp only [Act.put, List.setIfInBounds_toArray, List.set_cons_zero, List.set_cons_succ]
      go_big_quiet_on
      (go_big_quiet_want; go_big_quiet_op; first | go_big_quiet_on | (refine ⟨_, fun _ _ => rfl, ?_⟩; go_big_quiet_on))
      (go_big_quiet_want; go_big_quiet_op; first | go_big_quiet_on | (refine ⟨_, fun _ _ => rfl, ?_⟩; go_big_quiet_on))
      (go_big_quiet_want; go_big_quiet_op; first | go_big_quiet_on | (refine ⟨_, fun _ _ => rfl, ?_⟩; go_big_quiet_on))
      (go_big_quiet_want; go_big_quiet_op; first | go_big_quiet_on | (refine ⟨_, fun _ _ => rfl, ?_⟩; go_big_quiet_on))
      go_big_quiet_want
      refine ⟨.int .i64 came, fun w' hw' => ?_, ?_⟩
      · unfold Oper.quietAt
        go_simp
        exact (came_do wr (fn ++ fr) wr.heap.size ⟨k, x, y, t⟩ B R _ _ _ _ _ hw'.2).mono fun e w'' ⟨he, hw⟩ => ⟨he, hw ▸ hw'⟩
      simp only [Act.put, List.setIfInBounds_toArray, List.set_cons_zero, List.set_cons_succ]
      go_big_quiet_on
      (go_big_quiet_want; go_big_quiet_op; first | go_big_quiet_on | (refine ⟨_, fun _ _ => rfl, ?_⟩; go_big_quiet_on))
      (go_big_quiet_want; go_big_quiet_op; first | go_big_quiet_on | (refine ⟨_, fun _ _ => rfl, ?_⟩; go_big_quiet_on))
      (go_big_quiet_want; go_big_quiet_op; first | go_big_quiet_on | (refine ⟨_, fun _ _ => rfl, ?_⟩; go_big_quiet_on))
      go_big_quiet_want
      refine ⟨.int .i64 came, fun w' hw' => ?_, ?_⟩
      · have hc := hw'.1.2.2.2.2
        clear hw'
        unfold Oper.quietAt
        go_simp
      simp only [Act.put, List.setIfInBounds_toArray, List.set_cons_zero, List.set_cons_succ]
      go_big_quiet_on
      (go_big_quiet_want; go_big_quiet_op; first | go_big_quiet_on | (refine ⟨_, fun _ _ => rfl, ?_⟩; go_big_quiet_on))
      (go_big_quiet_want; go_big_quiet_op; first | go_big_quiet_on | (refine ⟨_, fun _ _ => rfl, ?_⟩; go_big_quiet_on))
      (go_big_quiet_want; go_big_quiet_op; first | go_big_quiet_on | (refine ⟨_, fun _ _ => rfl, ?_⟩; go_big_quiet_on))
      (go_big_quiet_want; go_big_quiet_op; first | go_big_quiet_on | (refine ⟨_, fun _ _ => rfl, ?_⟩; go_big_quiet_on))
      (go_big_quiet_want; go_big_quiet_op; first | go_big_quiet_on | (refine ⟨_, fun _ _ => rfl, ?_⟩; go_big_quiet_on))
      go_big_quiet_want
      refine ⟨.int .i64 x, fun w' hw' => ?_, ?_⟩
      · have hc := hw'.1.1
        clear hw'
        unfold Oper.quietAt
        go_simp
      simp only [Act.put, List.setIfInBounds_toArray, List.set_cons_zero, List.set_cons_succ]
      go_big_quiet_on
      (go_big_quiet_want; go_big_quiet_op; first | go_big_quiet_on | (refine ⟨_, fun _ _ => rfl, ?_⟩; go_big_quiet_on))
      go_big_quiet_want
      refine ⟨.int .i64 y, fun w' hw' => ?_, ?_⟩
      · have hc := hw'.1.2.1
        clear hw'
        unfold Oper.quietAt
        go_simp
      simp only [Act.put, List.setIfInBounds_toArray, List.set_cons_zero, List.set_cons_succ]
      go_big_quiet_on
      go_big_quiet_want
      refine ⟨.bool (hasWay cut (btw x y)), fun w' hw' => ?_, ?_⟩
      · unfold Oper.quietAt
        go_simp
        exact (iscut_calls f2 B _ _ x y hw'.2.side.1).mono fun e w'' ⟨he, hb⟩ => ⟨he, hw'.kept hb⟩
      simp only [Act.put, List.setIfInBounds_toArray, List.set_cons_zero, List.set_cons_succ]
      go_big_quiet_on
      (go_big_quiet_want; go_big_quiet_op; first | go_big_quiet_on | (refine ⟨_, fun _ _ => rfl, ?_⟩; go_big_quiet_on))
      (go_big_quiet_want; go_big_quiet_op; first | go_big_quiet_on | (refine ⟨_, fun _ _ => rfl, ?_⟩; go_big_quiet_on))
      go_big_quiet_want
      refine ⟨.int .i64 x, fun w' hw' => ?_, ?_⟩
      · have hc := hw'.1.1
        clear hw'
        unfold Oper.quietAt
        go_simp
      simp only [Act.put, List.setIfInBounds_toArray, List.set_cons_zero, List.set_cons_succ]
      go_big_quiet_on
      (go_big_quiet_want; go_big_quiet_op; first | go_big_quiet_on | (refine ⟨_, fun _ _ => rfl, ?_⟩; go_big_quiet_on))
      go_big_quiet_want
      refine ⟨.int .i64 y, fun w' hw' => ?_, ?_⟩
      · have hc := hw'.1.2.1
        clear hw'
        unfold Oper.quietAt
        go_simp
      simp only [Act.put, List.setIfInBounds_toArray, List.set_cons_zero, List.set_cons_succ]
      go_big_quiet_on
      go_big_quiet_want
      refine ⟨.bool (hasWay cut (btw x y)), fun w' hw' => ?_, ?_⟩
      · unfold Oper.quietAt
        go_simp
        exact (refcut_calls f3 R _ _ x y hw'.2.side.2.1).mono fun e w'' ⟨he, hb⟩ => ⟨by rw [he, HW.out.1 x y], hw'.kept hb⟩
      simp only [Act.put, List.setIfInBounds_toArray, List.set_cons_zero, List.set_cons_succ]
      go_big_quiet_on
      (go_big_quiet_want; go_big_quiet_op; first | go_big_quiet_on | (refine ⟨_, fun _ _ => rfl, ?_⟩; go_big_quiet_on))
      (go_big_quiet_want; go_big_quiet_op; first | go_big_quiet_on | (refine ⟨_, fun _ _ => rfl, ?_⟩; go_big_quiet_on))
      refine wpQuiet_nil ?_
      intro w5 h5
      have HN := Lib.hid (PlayRel.next HBW.out HBASE.out hsent hcame hways h5.2 HW.out)
      clear h3 h5 HW
      go_wp2_with fail
      go_roundw
      case rel => exact ⟨j + 1, by omega, by go_num, HN.out⟩
      case measure => simp [intOf]; omega
    · obtain rfl : j = len := by omega
      go_wp2_with fail
      go_ret
      obtain ⟨fn, fr, s, r, hside, hlike, hbw, _⟩ := HREL.out
      exact ⟨rfl, hbw⟩

end Go.Proofs.Ytjeiakfdjbnkaaa.netPlays

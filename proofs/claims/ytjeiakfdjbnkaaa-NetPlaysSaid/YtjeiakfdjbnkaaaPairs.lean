/-
  Each operation on the network and on its reference: the same answer, and alike behind it.
-/
import Derived.Test.YtjeiakfdjbnkaaaBoth
import Derived.WalkKit
import Derived.Below
import Derived.Lib.Hide
namespace Go.Proofs.Ytjeiakfdjbnkaaa
open Go.RowKit
set_option linter.unusedVariables false

/-- The reference's Send, where the network's has answered b. -/
theorem refsend_any (fp : List Nat) (R : Nat) (r : RS) (w : World) (p : Pk) (hn : RefAt w fp R r) (hs : r.sent < 5000) :
    Calls Try.prog 39 #[.pointer (some ⟨R, 0, none⟩), .agg #[.int .i64 p.src, .int .i64 p.dst, .string p.txt]] w fun e w' => ∃ fq r', RefAt w' fq R r' ∧ Fr w w' fp fq ∧
      ((e = .returned (.bool true) ∧ r' = ⟨r.ps ++ [p], r.ws, r.sent + 1, r.came⟩ ∧ r.ps.length < 256) ∨ (e = .returned (.bool false) ∧ r' = r ∧ 256 ≤ r.ps.length)) := by
  by_cases h : r.ps.length < 256
  · exact (refsend_calls fp R r w p hn hs h).mono fun e w' ⟨fq, he, h1, h2⟩ => ⟨fq, _, h1, h2, .inl ⟨he, rfl, h⟩⟩
  · exact (refsend_full fp R r w p hn (by omega)).mono fun e w' ⟨he, hb⟩ => ⟨fp, r, hn.below hb, Fr.of_below hb fp, .inr ⟨he, rfl, by omega⟩⟩

theorem reflose_any (fp : List Nat) (R : Nat) (r : RS) (w : World) (i : Int) (hn : RefAt w fp R r) :
    Calls Try.prog 41 #[.pointer (some ⟨R, 0, none⟩), .int .i64 i] w fun e w' => ∃ fq r', RefAt w' fq R r' ∧ Fr w w' fp fq ∧
      ((e = .returned (.bool false) ∧ r' = r ∧ (i < 0 ∨ (r.ps.length : Int) ≤ i)) ∨ (∃ j : Nat, i = j ∧ j < r.ps.length ∧ e = .returned (.bool true) ∧ r' = ⟨r.ps.eraseIdx j, r.ws, r.sent, r.came⟩)) := by
  rcases in_out i r.ps.length with h | ⟨j, rfl, hj⟩
  · exact (reflose_no fp R r w i hn h).mono fun e w' ⟨he, hw⟩ => ⟨fp, r, hw ▸ hn, hw ▸ Fr.refl w fp, .inl ⟨he, rfl, h⟩⟩
  · exact (reflose_yes fp R r w j hn hj).mono fun e w' ⟨fq, he, h1, h2⟩ => ⟨fq, _, h1, h2, .inr ⟨j, rfl, hj, he, rfl⟩⟩

theorem reftake_any (fp : List Nat) (R : Nat) (r : RS) (w : World) (i : Int) (hn : RefAt w fp R r) (hc : r.came < 5000) :
    Calls Try.prog 40 #[.pointer (some ⟨R, 0, none⟩), .int .i64 i] w fun e w' => ∃ fq r', RefAt w' fq R r' ∧ Fr w w' fp fq ∧
      ∃ p b, e = .returned (.tuple #[.agg #[.int .i64 (Pk.src p), .int .i64 p.dst, .string p.txt], .bool b]) ∧
      ((b = false ∧ p = Pk.zero ∧ r' = r ∧ (i < 0 ∨ (r.ps.length : Int) ≤ i)) ∨
       (∃ j : Nat, i = j ∧ j < r.ps.length ∧ ((b = false ∧ p = Pk.zero ∧ refCut r.ws (r.ps.getD j Pk.zero).src (r.ps.getD j Pk.zero).dst = true ∧ r' = ⟨r.ps.eraseIdx j, r.ws, r.sent, r.came⟩) ∨
         (b = true ∧ p = r.ps.getD j Pk.zero ∧ refCut r.ws (r.ps.getD j Pk.zero).src (r.ps.getD j Pk.zero).dst = false ∧ r' = ⟨r.ps.eraseIdx j, r.ws, r.sent, r.came + 1⟩)))) := by
  rcases in_out i r.ps.length with h | ⟨j, rfl, hj⟩
  · exact (reftake_no fp R r w i hn h).mono fun e w' ⟨he, hb⟩ => ⟨fp, r, hn.below hb, Fr.of_below hb fp, _, _, he, .inl ⟨rfl, rfl, rfl, h⟩⟩
  · by_cases hw : refCut r.ws (r.ps.getD j Pk.zero).src (r.ps.getD j Pk.zero).dst = true
    · exact (reftake_cut fp R r w j hn hj hw).mono fun e w' ⟨fq, he, h1, h2⟩ => ⟨fq, _, h1, h2, _, _, he, .inr ⟨j, rfl, hj, .inl ⟨rfl, rfl, hw, rfl⟩⟩⟩
    · have hw' : refCut r.ws (r.ps.getD j Pk.zero).src (r.ps.getD j Pk.zero).dst = false := by simpa using hw
      exact (reftake_yes fp R r w j hn hj (by omega) hw').mono fun e w' ⟨fq, he, h1, h2⟩ => ⟨fq, _, h1, h2, _, _, he, .inr ⟨j, rfl, hj, .inr ⟨rfl, rfl, hw', rfl⟩⟩⟩

end Go.Proofs.Ytjeiakfdjbnkaaa

/-
  The network and its reference side by side in memory.
-/
import Derived.Test.YtjeiakfdjbnkaaaCutLaw
import Derived.Test.YtjeiakfdjbnkaaaRefTake
import Derived.WalkKit
import Derived.Below
import Derived.Lib.Hide
namespace Go.Proofs.Ytjeiakfdjbnkaaa
open Go.RowKit
set_option linter.unusedVariables false

/-- Two that lie apart. -/
def Side (w : World) (fn fr : List Nat) (B R : Nat) (s : NS) (r : RS) : Prop := NetAt w fn B s ∧ RefAt w fr R r ∧ ∀ k ∈ fn, k ∉ fr

theorem Side.net {w w' : World} {fn fr fn' : List Nat} {B R : Nat} {s s' : NS} {r : RS} (h : Side w fn fr B R s r) (hn : NetAt w' fn' B s') (hf : Fr w w' fn fn') :
    Side w' fn' fr B R s' r ∧ Fr w w' (fn ++ fr) (fn' ++ fr) := by
  obtain ⟨h1, h2, h3⟩ := h
  refine ⟨⟨hn, h2.kept hf (fun k hk hq => h3 k hq hk), fun k hk hq => ?_⟩, ⟨hf.os, hf.tape, hf.output, hf.size, fun k hk hq => hf.block k hk (fun h => hq (by simp [h])), fun k hk => ?_⟩⟩
  · rcases hf.src k hk with h | h
    · exact h3 k h hq
    · have := h2.valid k hq; omega
  · rcases List.mem_append.1 hk with hk | hk
    · rcases hf.src k hk with h | h
      · exact .inl (by simp [h])
      · exact .inr h
    · exact .inl (by simp [hk])

theorem Side.ref {w w' : World} {fn fr fr' : List Nat} {B R : Nat} {s : NS} {r r' : RS} (h : Side w fn fr B R s r) (hn : RefAt w' fr' R r') (hf : Fr w w' fr fr') :
    Side w' fn fr' B R s r' ∧ Fr w w' (fn ++ fr) (fn ++ fr') := by
  obtain ⟨h1, h2, h3⟩ := h
  refine ⟨⟨h1.kept hf h3, hn, fun k hk hq => ?_⟩, ⟨hf.os, hf.tape, hf.output, hf.size, fun k hk hq => hf.block k hk (fun h => hq (by simp [h])), fun k hk => ?_⟩⟩
  · rcases hf.src k hq with h | h
    · exact h3 k hk h
    · have := h1.valid k hk; omega
  · rcases List.mem_append.1 hk with hk | hk
    · exact .inl (by simp [hk])
    · rcases hf.src k hk with h | h
      · exact .inl (by simp [h])
      · exact .inr h

theorem Side.below {w w' : World} {fn fr : List Nat} {B R : Nat} {s : NS} {r : RS} (h : Side w fn fr B R s r) (hb : Below w.heap.size w w') : Side w' fn fr B R s r :=
  ⟨h.1.below hb, h.2.1.below hb, h.2.2⟩

/-- The same in both. -/
def Like (s : NS) (r : RS) : Prop := r.ps = s.ps ∧ r.sent = s.sent ∧ r.came = s.came ∧ Same s.cut r.ws ∧ s.cut.Nodup

/-- What an operation on both comes to. -/
def Both (fn fr : List Nat) (B R : Nat) (s : NS) (r : RS) (w w' : World) : Prop :=
  ∃ fn' fr' s' r', Side w' fn' fr' B R s' r' ∧ Like s' r' ∧ Fr w w' (fn ++ fr) (fn' ++ fr') ∧ s'.sent ≤ s.sent + 1 ∧ s'.came ≤ s.came + 1 ∧ r'.ws.length ≤ r.ws.length + 1

end Go.Proofs.Ytjeiakfdjbnkaaa

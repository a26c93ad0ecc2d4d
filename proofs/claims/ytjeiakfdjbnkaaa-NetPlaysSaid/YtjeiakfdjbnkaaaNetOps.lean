/-
  A script of operations that came in, read out of memory; what is owed, in memory and in plain lists.
-/
import Derived.Test.YtjeiakfdjbnkaaaNetAwake
import Derived.Lib.SmallJoins
import Derived.Deep.Slices
import Derived.Deep.Fields
import Derived.Carry
import Derived.WalkKit
import Derived.Below
import Derived.Lib.Hide
namespace Go.Proofs.Ytjeiakfdjbnkaaa
open Go.RowKit Go.Joins
set_option linter.unusedVariables false

/-- An operation. -/
structure OpV where
  k : Int
  a : Int
  b : Int
  s : ByteArray

theorem add_zero' (a : Addr) : a.add 0 = a := by
  obtain ⟨b, o, c⟩ := a
  unfold Addr.add; split <;> simp_all
theorem add_block' (a : Addr) (n : Nat) : (a.add n).block = a.block := by
  unfold Addr.add; split <;> rfl

/-- The four cells of an operation. -/
def OpAt (w : World) (a : Addr) (i : Nat) (o : OpV) : Prop :=
  w.cell? (a.add (i * 4)) = some (.int .i64 o.k) ∧ w.cell? ⟨(a.add (i * 4)).block, (a.add (i * 4)).off + 1, none⟩ = some (.int .i64 o.a) ∧ w.cell? ⟨(a.add (i * 4)).block, (a.add (i * 4)).off + 2, none⟩ = some (.int .i64 o.b) ∧
    w.cell? ⟨(a.add (i * 4)).block, (a.add (i * 4)).off + 3, none⟩ = some (.string o.s)

theorem open_ops {H : Type} {enc : TypeId × Value → H} {w : World} {v : Value} {d : DataW H} {p : List MemPlace} (h : DataW.Trod enc Try.prog w 0 (fun _ => true) true 44 v d p) (hv : ∃ a len cap, v = .slice a len cap) :
    v = .slice none 0 0 ∨ ∃ a len cap, v = .slice (some a) len cap ∧ len ≤ cap ∧ cap ≤ maxLen ∧ (0 < len → a.block < w.heap.size) ∧ ∀ i, i < len → ∃ o : OpV, OpAt w a i o := by
  obtain ⟨a', len', cap', rfl⟩ := hv
  obtain ⟨fuel, hf⟩ := h
  rcases Deep.open_slice Try.underlying44 hf with ⟨h0, _⟩ | ⟨a, len, cap, m, n, D, Pl, hcs, hb, hl, hm, hmm, hx, hi⟩
  · left
    simpa [Value.cells] using h0
  · right
    have hC : Try.prog.cellsOf 47 = 4 := by kernel_rfl
    simp only [if_true] at hmm
    have hkey : ∀ i, i < len → ∃ o : OpV, OpAt w a i o := by
      intro i hlt
      obtain ⟨cs', hc, ht⟩ := hi i (by omega)
      rw [hC] at hc
      obtain ⟨y0, y1, y2, y3, n', hx', hlen, h0, h1, h2, h3⟩ := trod_struct4 Try.underlying47 ht
      rw [hC] at hlen
      obtain ⟨_, hcl, hat⟩ := World.cells?_some hc
      obtain ⟨c0, c1, c2, c3, rfl⟩ : ∃ c0 c1 c2 c3, cs' = [c0, c1, c2, c3] := by
        match cs', hlen with
        | [c0, c1, c2, c3], _ => exact ⟨c0, c1, c2, c3, rfl⟩
      have C3 : Try.prog.cellsOf 3 = 1 := by kernel_rfl
      have C9 : Try.prog.cellsOf 9 = 1 := by kernel_rfl
      obtain ⟨k, e0, _, _⟩ := DataW.trod_int Try.underlying3 h0
      obtain ⟨x, e1, _, _⟩ := DataW.trod_int Try.underlying3 h1
      obtain ⟨y, e2, _, _⟩ := DataW.trod_int Try.underlying3 h2
      obtain ⟨s, e3, _, _⟩ := DataW.trod_string Try.underlying9 h3
      simp [C3, C9] at e0 e1 e2 e3
      subst e0 e1 e2 e3
      refine ⟨⟨k, x, y, s⟩, ?_, ?_, ?_, ?_⟩
      · have h00 := hat 0 (by omega); rw [add_zero'] at h00; exact h00
      · exact hat 1 (by omega)
      · exact hat 2 (by omega)
      · exact hat 3 (by omega)
    simp [Value.cells] at hcs
    obtain ⟨rfl, rfl, rfl⟩ := hcs
    refine ⟨a, len', cap', rfl, hl, hm, fun h0 => ?_, hkey⟩
    obtain ⟨o, ho, _⟩ := hkey 0 h0
    have h00 := World.block_lt_of_cell? w _ ho
    rwa [add_block'] at h00

/-- What is owed, beside a network: a row of the call's own. -/
def OwA (w : World) (fp : List Nat) (B base : Nat) (s : NS) (v : Value) (os : List Pk) : Prop :=
  NetAt w fp B s ∧ w.ownsRow 0 40 3 v os.length (pkCells os) ∧ (∃ oa oc, v = .slice oa os.length oc ∧ ∀ k ∈ blk oa, base ≤ k ∧ k ∉ fp) ∧ ∀ k ∈ fp, base ≤ k

theorem OwA.did {w w' : World} {fp fq : List Nat} {B base : Nat} {s s' : NS} {v : Value} {os : List Pk} (h : OwA w fp B base s v os) (hb : base ≤ w.heap.size) (hn : NetAt w' fq B s') (hf : Fr w w' fp fq) :
    OwA w' fq B base s' v os := by
  obtain ⟨h1, h2, ⟨oa, oc, rfl, h3⟩, h4⟩ := h
  have hlt : ∀ k ∈ blk oa, k < w.heap.size := fun k hk => (h2.lt k ((ownBlock_blk _ _ _ _).2 hk)).2
  refine ⟨hn, ownsRow_kept h2 (fun g hg => hf.block g (hlt g ((ownBlock_blk _ _ _ _).1 hg)) (h3 g ((ownBlock_blk _ _ _ _).1 hg)).2), ⟨oa, oc, rfl, fun k hk => ⟨(h3 k hk).1, fun hq => ?_⟩⟩, hf.base hb h4⟩
  rcases hf.src k hq with h5 | h5
  · exact (h3 k hk).2 h5
  · have := hlt k hk; omega

theorem OwA.below {w w' : World} {fp : List Nat} {B base : Nat} {s : NS} {v : Value} {os : List Pk} (h : OwA w fp B base s v os) (hb : base ≤ w.heap.size) (hw : Below w.heap.size w w') : OwA w' fp B base s v os :=
  h.did hb (h.1.below hw) (Fr.of_below hw fp)

/-- Behind an append to what is owed, or a new row for it. -/
theorem OwA.grown {w w3 : World} {fp : List Nat} {B base g n' cap' : Nat} {s : NS} {v : Value} {os os' : List Pk} (h : OwA w fp B base s v os) (hb : base ≤ w.heap.size) (hn : n' = os'.length)
    (hown : w3.ownsRow 0 40 3 (.slice (some ⟨g, 0, none⟩) n' cap') n' (pkCells os')) (hgrow : ∀ k, k < w.heap.size → some k ≠ v.ownBlock → w3.heap[k]? = w.heap[k]?)
    (hat : v.ownBlock = some g ∨ w.heap.size ≤ g) (ho : w3.os = w.os ∧ w3.tape = w.tape ∧ w3.output = w.output ∧ w.heap.size ≤ w3.heap.size) :
    OwA w3 fp B base s (.slice (some ⟨g, 0, none⟩) n' cap') os' ∧ ∀ W : World, base ≤ W.heap.size → W.heap.size ≤ base → Below base W w → Below base W w3 := by
  subst hn
  obtain ⟨h1, h2, ⟨oa, oc, rfl, h3⟩, h4⟩ := h
  have hv := h1.valid
  have hne : ∀ k ∈ fp, some k ≠ (Value.slice oa os.length oc).ownBlock := fun k hk e => (h3 k ((ownBlock_blk _ _ _ _).1 e.symm)).2 hk
  refine ⟨⟨?_, hown, ⟨some ⟨g, 0, none⟩, cap', rfl, fun k hk => ?_⟩, h4⟩, fun W e1 e2 hW => ⟨ho.1.trans hW.os, ho.2.1.trans hW.tape, ho.2.2.1.trans hW.output, Nat.le_trans hW.size ho.2.2.2, fun k hk => (hgrow k (by have := hW.size; omega) (fun e => ?_)).trans (hW.block k hk)⟩⟩
  · exact h1.kept (fq := blk oa) (fr := blk oa ++ [g]) ⟨ho.1, ho.2.1, ho.2.2.1, ho.2.2.2, fun k hk hq => hgrow k hk (fun e => hq ((ownBlock_blk _ _ _ _).1 e.symm)), fun k hk => by
      simp only [List.mem_append, List.mem_singleton] at hk
      rcases hk with hk | rfl
      · exact .inl hk
      · rcases hat with h | h
        · exact .inl ((ownBlock_blk _ _ _ _).1 h)
        · exact .inr h⟩ (fun k hk hq => (h3 k hq).2 hk)
  · have hk' : k = g := by simpa [blk, eq_comm] using hk
    subst hk'
    rcases hat with h | h
    · exact h3 k ((ownBlock_blk _ _ _ _).1 h)
    · exact ⟨by omega, fun hq => by have := hv k hq; omega⟩
  · have := (h3 k ((ownBlock_blk _ _ _ _).1 e.symm)).1
    omega

/-- What the network holds is owed. -/
def Sub (ps os : List Pk) : Prop := ∃ rest, (ps ++ rest).Perm os

theorem erase_perm {α : Type} (l : List α) (d : α) (i : Nat) (h : i < l.length) : (l.getD i d :: l.eraseIdx i).Perm l := by
  induction l generalizing i with
  | nil => simp at h
  | cons x l ih =>
    cases i with
    | zero => simp
    | succ i =>
      have := ih i (by simpa using h)
      simp only [List.getD_cons_succ, List.eraseIdx_cons_succ]
      exact (List.Perm.swap _ _ _).trans (this.cons x)

theorem Sub.put {ps os : List Pk} (h : Sub ps os) (p : Pk) : Sub (ps ++ [p]) (os ++ [p]) := by
  obtain ⟨rest, h⟩ := h
  refine ⟨rest, ?_⟩
  have h1 : (ps ++ [p] ++ rest).Perm (p :: (ps ++ rest)) := by
    rw [List.append_assoc]
    exact List.perm_middle
  exact h1.trans ((h.cons p).trans (List.perm_append_singleton p os).symm)

theorem Sub.drop {ps os : List Pk} (h : Sub ps os) (i : Nat) (hi : i < ps.length) : Sub (ps.eraseIdx i) os := by
  obtain ⟨rest, h⟩ := h
  refine ⟨ps.getD i Pk.zero :: rest, ?_⟩
  exact (List.perm_middle.trans ((erase_perm ps Pk.zero i hi).append_right rest)).trans h

theorem Sub.mem {ps os : List Pk} (h : Sub ps os) (i : Nat) (hi : i < ps.length) : ps.getD i Pk.zero ∈ os := by
  obtain ⟨rest, h⟩ := h
  apply h.mem_iff.1
  rw [List.mem_append]
  left
  rw [List.getD_eq_getElem?_getD, List.getElem?_eq_getElem hi]
  exact List.getElem_mem hi

theorem Sub.both {ps os : List Pk} (h : Sub ps os) (i j : Nat) (hi : i < ps.length) (hj : j < os.length) (he : os.getD j Pk.zero = ps.getD i Pk.zero) : Sub (ps.eraseIdx i) (os.eraseIdx j) := by
  obtain ⟨rest, h⟩ := h
  refine ⟨rest, ?_⟩
  have h1 := ((erase_perm ps Pk.zero i hi).append_right rest).trans (h.trans (erase_perm os Pk.zero j hj).symm)
  rw [he] at h1
  exact List.Perm.cons_inv h1

theorem Sub.le {ps os : List Pk} (h : Sub ps os) : ps.length ≤ os.length := by
  obtain ⟨rest, h⟩ := h
  have := h.length_eq
  rw [List.length_append] at this
  omega

theorem OpAt.kept {w w' : World} {a : Addr} {i : Nat} {o : OpV} (h : OpAt w a i o) (hb : w'.heap[a.block]? = w.heap[a.block]?) : OpAt w' a i o := by
  have e : ∀ n, (a.add n).block = a.block := add_block' a
  have hb' : w'.heap[(a.add (i * 4)).block]? = w.heap[(a.add (i * 4)).block]? := by rw [e]; exact hb
  have hcc : ∀ c : Addr, c.block = (a.add (i * 4)).block → w'.cell? c = w.cell? c := fun c hc => World.cell?_of_block (by rw [hc]; exact hb')
  obtain ⟨h0, h1, h2, h3⟩ := h
  exact ⟨(hcc _ rfl).trans h0, (hcc ⟨(a.add (i * 4)).block, (a.add (i * 4)).off + 1, none⟩ rfl).trans h1, (hcc ⟨(a.add (i * 4)).block, (a.add (i * 4)).off + 2, none⟩ rfl).trans h2, (hcc ⟨(a.add (i * 4)).block, (a.add (i * 4)).off + 3, none⟩ rfl).trans h3⟩

end Go.Proofs.Ytjeiakfdjbnkaaa

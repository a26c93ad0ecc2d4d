/-
  A network's footprint in memory, what a call may touch, and the contracts of the network's small methods.
-/
import Derived.Test.YtjeiakfdjbnkaaaNetDefs
import Derived.WalkKit
import Derived.WalkSpells
import Derived.WalkLawsBesides
import Derived.Below
import Derived.Lib.Hide
import Derived.Deep.AppendLies
import Derived.Outline
import Derived.Deep.RegionWith
namespace Go.Proofs.Ytjeiakfdjbnkaaa
open Go.RowKit
set_option linter.unusedVariables false

/-- What a call that may touch the blocks fp, and leaves its thing in the blocks fq, does to memory. -/
structure Fr (w w' : World) (fp fq : List Nat) : Prop where
  os : w'.os = w.os
  tape : w'.tape = w.tape
  output : w'.output = w.output
  size : w.heap.size ≤ w'.heap.size
  block : ∀ k, k < w.heap.size → k ∉ fp → w'.heap[k]? = w.heap[k]?
  src : ∀ k, k ∈ fq → k ∈ fp ∨ w.heap.size ≤ k

theorem Fr.trans {w w1 w2 : World} {fp fq fr : List Nat} (h : Fr w w1 fp fq) (k : Fr w1 w2 fq fr) : Fr w w2 fp fr where
  os := k.os.trans h.os
  tape := k.tape.trans h.tape
  output := k.output.trans h.output
  size := Nat.le_trans h.size k.size
  block := fun i hi hn => (k.block i (Nat.lt_of_lt_of_le hi h.size) (fun hq => (h.src i hq).elim hn (fun h1 => by omega))).trans (h.block i hi hn)
  src := fun i hi => by
    rcases k.src i hi with h1 | h1
    · exact h.src i h1
    · exact .inr (Nat.le_trans h.size h1)

theorem Fr.of_below {w w' : World} (h : Below w.heap.size w w') (fp : List Nat) : Fr w w' fp fp :=
  ⟨h.os, h.tape, h.output, h.size, fun k hk _ => h.block k hk, fun _ hk => .inl hk⟩

theorem Fr.refl (w : World) (fp : List Nat) : Fr w w fp fp := Fr.of_below (Below.refl _ _) fp

theorem Fr.below {w w' : World} {fp fq : List Nat} (h : Fr w w' fp fq) {base : Nat} (hb : base ≤ w.heap.size) (hfp : ∀ k ∈ fp, base ≤ k) : Below base w w' :=
  ⟨h.os, h.tape, h.output, h.size, fun k hk => h.block k (by omega) (fun hm => by have := hfp k hm; omega)⟩

theorem Fr.base {w w' : World} {fp fq : List Nat} (h : Fr w w' fp fq) {base : Nat} (hb : base ≤ w.heap.size) (hfp : ∀ k ∈ fp, base ≤ k) : ∀ k ∈ fq, base ≤ k := fun k hk => by
  rcases h.src k hk with h1 | h1
  · exact hfp k h1
  · omega

/-- A packet. -/
structure Pk where
  src : Int
  dst : Int
  txt : ByteArray

def Pk.cells (p : Pk) : List Value := [.int .i64 p.src, .int .i64 p.dst, .string p.txt]
def Pk.val (p : Pk) : Value := .agg #[.int .i64 p.src, .int .i64 p.dst, .string p.txt]
def pkCells (ps : List Pk) : List Value := ps.flatMap Pk.cells

/-- A network. -/
structure NS where
  ps : List Pk
  cut : List (Int × Int)
  sent : Nat
  came : Nat

/-- The block that an address leads into. -/
def blk (a : Option Addr) : List Nat := (a.map fun x => x.block).toList

/-- The four cells of a network. -/
def netCells (a : Option Addr) (n cap mb : Nat) (s : NS) : Array Value := #[.slice a n cap, .map (some mb), .int .i64 s.sent, .int .i64 s.came]

/-- A network in memory. -/
def NetAt (w : World) (fp : List Nat) (B : Nat) (s : NS) : Prop :=
  ∃ a cap mb, fp = B :: mb :: blk a ∧ fp.Nodup ∧ w.heap[B]? = some (.cells (netCells a s.ps.length cap mb s) 65 (0, 0)) ∧
    w.ownsRow 0 40 3 (.slice a s.ps.length cap) s.ps.length (pkCells s.ps) ∧ WayMap w mb s.cut ∧ s.cut.Nodup ∧ s.ps.length ≤ 256 ∧ s.sent ≤ 5000 ∧ s.came ≤ 5000

theorem ownBlock_blk (a : Option Addr) (n cap g : Nat) : (Value.slice a n cap).ownBlock = some g ↔ g ∈ blk a := by
  cases a with
  | none => simp [Value.ownBlock, blk]
  | some x => simp [Value.ownBlock, blk]; exact eq_comm

theorem NetAt.valid {w : World} {fp : List Nat} {B : Nat} {s : NS} (h : NetAt w fp B s) : ∀ k ∈ fp, k < w.heap.size := by
  obtain ⟨a, cap, mb, rfl, _, hB, hown, ⟨es, c, hm, _⟩, _⟩ := h
  intro k hk
  simp only [List.mem_cons] at hk
  rcases hk with rfl | rfl | hk
  · exact (Array.getElem?_eq_some_iff.1 hB).1
  · exact (Array.getElem?_eq_some_iff.1 hm).1
  · exact (hown.lt k ((ownBlock_blk _ _ _ _).2 hk)).2

/-- The cells of a network, one by one, and that none is frozen. -/
theorem netCell {w : World} {B : Nat} {a : Option Addr} {n cap mb : Nat} {s : NS} (h : w.heap[B]? = some (.cells (netCells a n cap mb s) 65 (0, 0))) :
    w.cell? ⟨B, 0, none⟩ = some (.slice a n cap) ∧ w.cell? ⟨B, 1, none⟩ = some (.map (some mb)) ∧ w.cell? ⟨B, 2, none⟩ = some (.int .i64 s.sent) ∧ w.cell? ⟨B, 3, none⟩ = some (.int .i64 s.came) ∧
    (∀ o, w.frozen? ⟨B, o, none⟩ = false) := by
  refine ⟨?_, ?_, ?_, ?_, fun o => frozen_of_row w B o _ 65 h⟩ <;> rw [cell_of_row w B _ _ 65 (0, 0) h] <;> rfl

theorem ownsRow_kept {w w' : World} {base : Nat} {e : TypeId} {size : Nat} {v : Value} {n : Nat} {xs : List Value} (h : w.ownsRow base e size v n xs)
    (hk : ∀ g, v.ownBlock = some g → w'.heap[g]? = w.heap[g]?) : w'.ownsRow base e size v n xs := by
  refine ⟨h.1, ?_⟩
  rcases h.2 with hn | ⟨g, cap, cur, rfl, hb, hgg, rest⟩
  · exact .inl hn
  · exact .inr ⟨g, cap, cur, rfl, hb, by rw [hk g rfl]; exact hgg, rest⟩

/-- A network that a call may not touch is as it was. -/
theorem NetAt.kept {w w' : World} {fp fq fr : List Nat} {B : Nat} {s : NS} (h : NetAt w fp B s) (hf : Fr w w' fq fr) (hd : ∀ k ∈ fp, k ∉ fq) : NetAt w' fp B s := by
  have hv := h.valid
  obtain ⟨a, cap, mb, rfl, hnd, hB, hown, ⟨es, c, hm, hk, hes⟩, rest⟩ := h
  have hs : ∀ k ∈ B :: mb :: blk a, w'.heap[k]? = w.heap[k]? := fun k hk => hf.block k (hv k hk) (hd k hk)
  refine ⟨a, cap, mb, rfl, hnd, by rw [hs B (by simp)]; exact hB, ownsRow_kept hown (fun g hg => hs g (by simp [(ownBlock_blk _ _ _ _).1 hg])), ⟨es, c, by rw [hs mb (by simp)]; exact hm, hk, hes⟩, rest⟩

theorem NetAt.below {w w' : World} {fp : List Nat} {B : Nat} {s : NS} (h : NetAt w fp B s) (hb : Below w.heap.size w w') : NetAt w' fp B s :=
  h.kept (Fr.of_below hb []) (by simp)

/-- Two ends, the lesser first. -/
def btw (a b : Int) : Int × Int := (min a b, max a b)

theorem btw_le {a b : Int} (h : a ≤ b) : wayV (btw a b) = .agg #[.int .i64 a, .int .i64 b] := by
  unfold wayV btw; rw [Int.min_eq_left h, Int.max_eq_right h]
theorem btw_ge {a b : Int} (h : b ≤ a) : wayV (btw a b) = .agg #[.int .i64 b, .int .i64 a] := by
  unfold wayV btw; rw [Int.min_eq_right h, Int.max_eq_left h]

set_option maxHeartbeats 400000 in
theorem between_calls (a b : Int) (w : World) :
    Calls Try.prog 38 #[.int .i64 a, .int .i64 b] w fun e w' => e = .returned (wayV (btw a b)) ∧ Below w.heap.size w w' := by
  by_cases h1 : a ≤ b
  · rw [btw_le h1]
    by_cases h2 : a < b
    · go_enter Try.func38, Try.ntmps38
      go_wp2
      exact bodyPost_ret (v := .agg #[.int .i64 a, .int .i64 b]) (by simp [results, Try.results38, go_sem]) rfl ⟨rfl, (Below.refl _ _).alloc (Nat.le_refl _) _⟩
    · obtain rfl : a = b := by omega
      go_enter Try.func38, Try.ntmps38
      go_wp2
      exact bodyPost_ret (v := .agg #[.int .i64 a, .int .i64 a]) (by simp [results, Try.results38, go_sem]) rfl ⟨rfl, (Below.refl _ _).alloc (Nat.le_refl _) _⟩
  · have h2 : b < a := by omega
    rw [btw_ge (by omega)]
    go_enter Try.func38, Try.ntmps38
    go_wp2
    exact bodyPost_ret (v := .agg #[.int .i64 b, .int .i64 a]) (by simp [results, Try.results38, go_sem]) rfl ⟨rfl, (Below.refl _ _).alloc (Nat.le_refl _) _⟩

set_option maxHeartbeats 400000 in
theorem new_calls (w : World) :
    Calls Try.prog 20 #[] w fun e w' => ∃ B fp, e = .returned (.pointer (some ⟨B, 0, none⟩)) ∧ NetAt w' fp B ⟨[], [], 0, 0⟩ ∧ Fr w w' [] fp := by
  have hmm := @run_makeMap Try.prog
  go_enter Try.func20, Try.ntmps20
  go_wp2
  go_ret
  refine ⟨w.heap.size + 1, [w.heap.size + 1, w.heap.size], rfl, ⟨none, 0, w.heap.size, rfl, by simp, ?_, World.ownsRow_nil _ _ _ _, ⟨#[], 0, ?_, rfl, by simp⟩, List.nodup_nil, by simp, by simp, by simp⟩, ?_⟩
  · have := heap_alloc_new (w.alloc (.map #[] 0)) (.cells (netCells none 0 0 w.heap.size ⟨[], [], 0, 0⟩) 65)
    rw [World.size_alloc] at this
    exact this
  · have h1 := heap_alloc_new w (.map #[] 0)
    exact (Below.heap_alloc _ _ _ (by simp)).trans h1
  · have hb : Below w.heap.size w ((w.alloc (.map #[] 0)).alloc (.cells (netCells none 0 0 w.heap.size ⟨[], [], 0, 0⟩) 65)) := ((Below.refl _ _).alloc (Nat.le_refl _) _).alloc (by simp) _
    refine ⟨hb.os, hb.tape, hb.output, hb.size, fun k hk _ => hb.block k hk, fun k hk => ?_⟩
    simp at hk; omega

set_option maxHeartbeats 400000 in
theorem len_calls (fp : List Nat) (B : Nat) (s : NS) (w : World) (hn : NetAt w fp B s) :
    Calls Try.prog 23 #[.pointer (some ⟨B, 0, none⟩)] w fun e w' => e = .returned (.int .i64 s.ps.length) ∧ w = w' := by
  obtain ⟨a, cap, mb, rfl, hnd, hB, _⟩ := hn
  obtain ⟨c0, c1, c2, c3, cf⟩ := netCell hB
  clear hB hnd
  go_enter Try.func23, Try.ntmps23
  go_wp2
  go_ret
  exact ⟨rfl, rfl⟩

set_option maxHeartbeats 400000 in
theorem sent_calls (fp : List Nat) (B : Nat) (s : NS) (w : World) (hn : NetAt w fp B s) :
    Calls Try.prog 24 #[.pointer (some ⟨B, 0, none⟩)] w fun e w' => e = .returned (.int .i64 s.sent) ∧ w = w' := by
  obtain ⟨a, cap, mb, rfl, hnd, hB, _⟩ := hn
  obtain ⟨c0, c1, c2, c3, cf⟩ := netCell hB
  clear hB hnd
  go_enter Try.func24, Try.ntmps24
  go_wp2
  go_ret
  exact ⟨rfl, rfl⟩

set_option maxHeartbeats 400000 in
theorem came_calls (fp : List Nat) (B : Nat) (s : NS) (w : World) (hn : NetAt w fp B s) :
    Calls Try.prog 33 #[.pointer (some ⟨B, 0, none⟩)] w fun e w' => e = .returned (.int .i64 s.came) ∧ w = w' := by
  obtain ⟨a, cap, mb, rfl, hnd, hB, _⟩ := hn
  obtain ⟨c0, c1, c2, c3, cf⟩ := netCell hB
  clear hB hnd
  go_enter Try.func33, Try.ntmps33
  go_wp2
  go_ret
  exact ⟨rfl, rfl⟩

end Go.Proofs.Ytjeiakfdjbnkaaa

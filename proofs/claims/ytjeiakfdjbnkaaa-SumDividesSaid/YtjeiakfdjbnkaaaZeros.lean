/-
  A law of the walk that the library lacks: 'append(s, make([]T, m)...)' onto a slice of the call's own, at a number m that is known: it then owns m zeros more.
-/
import Derived.Laws.AppendOwn
import Derived.Deep.AppendLies
import Derived.OwnWalk
namespace Go.Proofs.Ytjeiakfdjbnkaaa

theorem run_append_zeros {P : Program} (w : World) (base : Nat) (t u ty e : TypeId) (i : TypeInfo) (z : Value) (bytes : Nat)
    (ht : P.underlying t = some (.slice e)) (hu : P.underlying u = some (.int .i64)) (hi : P.info? e = some i) (hz : i.zero = some z)
    (hsize : i.size = 1) (hby : i.bytes = bytes) (hzs : z.cells = #[z]) (hz1 : z.oneCell' = true)
    (g cap n : Nat) (xs : List Value) (hown : w.ownsRow base e 1 (.slice (some ⟨g, 0, none⟩) n cap) n xs)
    (m : Nat) (hm : 0 < m) (hm3 : (m : Int) * bytes ≤ 281474976710656) (h63 : n + m ≤ maxLen) (hbytes : (n + m) * bytes ≤ 140737488355328) (hbase : base ≤ w.heap.size) :
    ∃ g' cap' w', (Builtin.append_ #[t, u] ty #[.slice (some ⟨g, 0, none⟩) n cap, .int .i64 (m : Int)]).run P w = .ok (.slice (some ⟨g', 0, none⟩) (n + m) cap') w' ∧
      w'.ownsRow base e 1 (.slice (some ⟨g', 0, none⟩) (n + m) cap') (n + m) (xs ++ List.replicate m z) ∧ w.grownBy w' (some g) := by
  subst hby
  have hwrap : IntKind.i64.wrap (m : Int) = m := by
    simp only [IntKind.wrap, IntKind.bits, IntKind.signed]
    simp [maxLen] at h63
    simp
    omega
  have hneg : ¬ ((m : Int) < 0) := by omega
  have h48 : ¬ ((281474976710656 : Int) < (m : Int) * i.bytes) := by omega
  have hzc : Builtin.zeroCells z.cells m = (List.replicate m z).toArray := by
    rw [hzs]
    apply Array.ext
    · simp [Builtin.zeroCells]
    · intro j h1 h2
      simp [Builtin.zeroCells, Nat.mod_one]
  rcases hown.2 with ⟨h, _⟩ | ⟨g0, cap0, cur, hv, hbg, hg, hnc, hcm, hcs, htake⟩
  · cases h
  cases hv
  simp only [Nat.mul_one] at hcs htake
  by_cases hroom : n + m ≤ cap
  · have hst := run_storeCells_at P g n e (List.replicate m z) 0 cur w hg (by simp; omega) (by intro v hv; rw [List.eq_of_mem_replicate hv]; exact hz1)
    simp only [Nat.add_zero] at hst
    have hl : xs.length = n := by have := hown.1; rwa [Nat.mul_one] at this
    refine ⟨g, cap, w.setRow g (cur.toList.take n ++ List.replicate m z ++ cur.toList.drop (n + (List.replicate m z).length)).toArray, ?_, ⟨?_, .inr ⟨g, cap, _, rfl, hbg, setRow_heap w g cur _ e _ hg, hroom, hcm, ?_, ?_⟩⟩,
      ⟨rfl, rfl, rfl, by simp, fun k _ hk => setRow_other w g k _ (fun e => hk (by simp [e]))⟩⟩
    · have hm0 : m ≠ 0 := by omega
      simp [Builtin.append_, run_underlying ht, run_underlying hu, sizeOf, typeInfo, zeroValue, hi, hz, hsize, asInt, asIntOf, hwrap, hneg, h48, hroom, hzc, hst, hm0, Addr.add_lit]
    · rw [List.length_append, List.length_replicate, hl, Nat.mul_one]
    · simp only [List.size_toArray, List.length_append, List.length_take, List.length_drop, Array.length_toList, List.length_replicate]
      omega
    · rw [htake, Nat.mul_one]
      apply List.take_left'
      rw [List.length_append, List.length_replicate, hl]
  · have hl : xs.length = n := by have := hown.1; rwa [Nat.mul_one] at this
    have hm0 : m ≠ 0 := by omega
    have hge := grownCap_ge w (n + m) cap e
    have hcm' : grownCap w (n + m) cap e ≤ maxLen := grownCap_le_maxLen w (n + m) cap e h63
    have h63' : ¬ ((9223372036854775807 : Int) < (n : Int) + (m : Int)) := by simp [maxLen] at h63; omega
    have hcap : ¬ (281474976710656 < Builtin.nextslicecap (n + m) cap * i.bytes) := by
      have := growslice_fits (need := n + m) (old := cap) (by omega) hbytes; omega
    have holds : ∀ j v, xs[j]? = some v → w.drew.cell? ((⟨g, 0, none⟩ : Addr).add j) = some v := fun j v h => by
      have := hown.cells (g := g) rfl j v h
      simpa using this
    have hfo := run_firstCells_some (P := P) w.drew 1 n ⟨g, 0, none⟩ n cap xs (by omega) holds
    refine ⟨w.heap.size, grownCap w (n + m) cap e, w.drew.alloc (.cells (xs.toArray ++ ((List.replicate m z).toArray ++ Builtin.zeroCells z.cells (grownCap w (n + m) cap e - (n + m)))) e), ?_, ⟨?_, .inr ⟨w.heap.size, _, _, rfl, hbase, heap_alloc_new w.drew _, hge, hcm', ?_, ?_⟩⟩, ⟨rfl, rfl, rfl, by simp, fun k hk _ => heap_alloc_old w.drew _ k hk⟩⟩
    · simp [Builtin.append_, run_underlying ht, run_underlying hu, sizeOf, typeInfo, zeroValue, hi, hz, hsize, asInt, asIntOf, hwrap, hneg, h48, hroom, hzc, hm0, h63', hcap, hfo, Question.forced, newRow, grownCap]
    · rw [List.length_append, List.length_replicate, hl, Nat.mul_one]
    · simp only [Array.size_append, List.size_toArray, size_zeroCells, hzs, List.length_replicate, hl]
      simp
      omega
    · simp only [Array.toList_append]
      rw [← List.append_assoc]
      apply List.take_left'
      rw [List.length_append, hl]; simp

/-- At the list of a plain region's operations: for the walk. -/
theorem wpList_append_zeros {P : Program} (w : World) {ops : Array Oper} {rest : List Oper} {o : Oper} {a : Act} {Q : Exit → Act → World → Prop} (hgd : o.guard = none) (s x : Operand) (t u : TypeId)
    (ho : o.op = .call { callee := .builtin .append, args := #[s, x], argTypes := #[t, u] })
    (base : Nat) (e : TypeId) (i : TypeInfo) (z : Value) (bytes : Nat)
    (ht : P.underlying t = some (.slice e)) (hu : P.underlying u = some (.int .i64)) (hi : P.info? e = some i) (hz : i.zero = some z)
    (hsize : i.size = 1) (hby : i.bytes = bytes) (hzs : z.cells = #[z]) (hz1 : z.oneCell' = true)
    (g cap n : Nat) (xs : List Value) (hs : a.eval s = .slice (some ⟨g, 0, none⟩) n cap) (hown : w.ownsRow base e 1 (.slice (some ⟨g, 0, none⟩) n cap) n xs)
    (m : Nat) (hx : a.eval x = .int .i64 (m : Int)) (hm : 0 < m) (hm3 : (m : Int) * bytes ≤ 281474976710656) (h63 : n + m ≤ maxLen) (hbytes : (n + m) * bytes ≤ 140737488355328) (hbase : base ≤ w.heap.size)
    (h : ∀ g' cap' w', w'.ownsRow base e 1 (.slice (some ⟨g', 0, none⟩) (n + m) cap') (n + m) (xs ++ List.replicate m z) → w.grownBy w' (some g) → wpList P ops Q rest (a.put o.dst (.slice (some ⟨g', 0, none⟩) (n + m) cap')) w') : wpList P ops Q (o :: rest) a w := by
  refine wpList_plain hgd fun K hK => ?_
  obtain ⟨g', cap', w', hr, h2, h3⟩ := run_append_zeros (P := P) w base t u o.type e i z bytes ht hu hi hz hsize hby hzs hz1 g cap n xs hown m hm hm3 h63 hbytes hbase
  unfold Oper.wp execOp
  simp only [ho, resolve, invoke, builtin, Sem.run_bind, Sem.run_pure, Result.andThen_ok, List.map_toArray, List.map_cons, List.map_nil, hs, hx, hr]
  exact hK _ _ (h g' cap' w' h2 h3)
end Go.Proofs.Ytjeiakfdjbnkaaa

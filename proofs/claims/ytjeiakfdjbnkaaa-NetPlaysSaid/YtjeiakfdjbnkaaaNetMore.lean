/-
  The walk of slices.Delete at packets, and those of the network's greater methods.
-/
import Derived.Test.YtjeiakfdjbnkaaaNetWalks
import Derived.Deep.RegionLaw
import Derived.Lib.SlBytesConst
import Derived.WalkKit
import Derived.WalkSpells
import Derived.WalkLawsBesides
import Derived.Below
import Derived.Lib.Hide
import Derived.Deep.AppendLies
import Derived.Outline
import Derived.Deep.RegionWith
namespace Go.Proofs.Ytjeiakfdjbnkaaa
open Go.RowKit
set_option linter.unusedVariables false

section
variable {P : Program}

/-- append within the capacity, onto a row of the call's own, as one step of a region that draws. -/
theorem step_append_fits {ops : Array Oper} {o : Oper} {a : Act} {w : World} {K : Act → World → Prop} {Q : Exit → Act → World → Prop} {E : Prop}
    (hgd : o.guard = none) (s x : Operand) (t : TypeId) (ho : o.op = Op.call { callee := Callee.builtin Builtin.append, args := #[s, x], argTypes := #[t, t] })
    (base : Nat) (e : TypeId) (i : TypeInfo) (size : Nat) (ht : P.underlying t = some (.slice e)) (hi : P.info? e = some i) (hsize : i.size = size)
    (g n cap : Nat) (xs : List Value) (hs : a.eval s = .slice (some ⟨g, 0, none⟩) n cap) (hown : w.ownsRow base e size (.slice (some ⟨g, 0, none⟩) n cap) n xs)
    (ad : Addr) (m c : Nat) (news : List Value) (hx : a.eval x = .slice (some ad) m c) (hl : news.length = m * size) (hnews : ∀ j u, news[j]? = some u → w.cell? (ad.add j) = some u) (h1 : ∀ u ∈ news, u.oneCell' = true)
    (hroom : n + m ≤ cap)
    (h : ∀ w', w'.ownsRow base e size (.slice (some ⟨g, 0, none⟩) (n + m) cap) (n + m) (xs ++ news) → w.grownBy w' (some g) → K (a.put o.dst (.slice (some ⟨g, 0, none⟩) (n + m) cap)) w') :
    if Region.wanted o (yielded ops a.tmps) = true then Oper.wp P o a w K Q else E := by
  have hw : Region.wanted o (yielded ops a.tmps) = true := by simp [Region.wanted, hgd]
  rw [if_pos hw]
  obtain ⟨w', hr, h2, h3⟩ := run_append_fits (P := P) w base t o.type e i size ht hi hsize g n cap xs hown ad m c news hl hnews h1 hroom
  unfold Oper.wp execOp
  simp only [ho, resolve, invoke, builtin, Sem.run_bind, Sem.run_pure, Result.andThen_ok, List.map_toArray, List.map_cons, List.map_nil, hs, hx, hr]
  exact h w' h2 h3

/-- clear of what lies behind a row of the call's own, within its block. -/
theorem run_clear_row (w : World) (base : Nat) (t ty e : TypeId) (i : TypeInfo) (z : Value) (size : Nat) (ht : P.underlying t = some (.slice e)) (hi : P.info? e = some i) (hz : i.zero = some z)
    (hzs : z.cells.size = size) (hz1 : ∀ u ∈ z.cells.toList, u.oneCell' = true)
    (g k cap : Nat) (xs : List Value) (hown : w.ownsRow base e size (.slice (some ⟨g, 0, none⟩) k cap) k xs) (hroom : k < cap) (c : Nat) :
    ∃ w', (Builtin.clear_ #[t] ty #[.slice (some ⟨g, k * size, none⟩) 1 c]).run P w = .ok (.tuple #[]) w' ∧ w'.ownsRow base e size (.slice (some ⟨g, 0, none⟩) k cap) k xs ∧ w.grownBy w' (some g) := by
  rcases hown.2 with ⟨h, _⟩ | ⟨g', cap', cur, h, hbg, hg, hnc, hcm, hcs, htake⟩
  · simp at h
  · simp only [Value.slice.injEq, Option.some.injEq, Addr.mk.injEq, and_true, true_and] at h
    obtain ⟨rfl, rfl⟩ := h
    have hlen : (Builtin.zeroCells z.cells 1).toList.length = size := by rw [Array.length_toList, size_zeroCells, hzs, Nat.one_mul]
    have hone : ∀ u ∈ (Builtin.zeroCells z.cells 1).toList, u.oneCell' = true := by
      intro u hu
      simp only [Builtin.zeroCells, Array.toList_map, List.mem_map, Nat.one_mul, hzs] at hu
      obtain ⟨j, hj, rfl⟩ := hu
      have hj' : j < size := by simpa using hj
      apply hz1
      rw [Nat.mod_eq_of_lt hj', getElem!_pos _ _ (by rw [hzs]; exact hj')]
      exact Array.getElem_mem_toList _
    have hmul : k * size + size ≤ cap * size := by
      have := Nat.mul_le_mul_right size hroom
      rw [Nat.succ_mul] at this; exact this
    have hst := run_storeCells_at P g (k * size) e (Builtin.zeroCells z.cells 1).toList 0 cur w hg (by rw [hlen, hcs]; omega) hone
    simp only [Nat.add_zero] at hst
    obtain ⟨cur', hcur⟩ : ∃ x, x = (cur.toList.take (k * size) ++ (Builtin.zeroCells z.cells 1).toList ++ cur.toList.drop (k * size + (Builtin.zeroCells z.cells 1).toList.length)).toArray := ⟨_, rfl⟩
    rw [← hcur] at hst
    have hlk : (cur.toList.take (k * size)).length = k * size := by rw [List.length_take, Array.length_toList, hcs]; omega
    refine ⟨w.setRow g cur', ?_, ⟨hown.1, .inr ⟨g, cap, cur', rfl, hbg, setRow_heap w g cur _ e _ hg, hnc, hcm, ?_, ?_⟩⟩, ⟨rfl, rfl, rfl, by simp, fun j _ hj => setRow_other w g j _ (fun e => hj (by simp [e]))⟩⟩
    · simp [Builtin.clear_, run_underlying ht, zeroValue, typeInfo, hi, hz, hst]
    · rw [hcur, List.size_toArray, List.length_append, List.length_append, hlk, hlen, List.length_drop, Array.length_toList, hcs]; omega
    · rw [hcur, ← htake, List.append_assoc]
      exact List.take_left' hlk
end

theorem ownsRow_prefix {w : World} {base g n k cap : Nat} {e : TypeId} {size : Nat} {xs : List Value} (h : w.ownsRow base e size (.slice (some ⟨g, 0, none⟩) n cap) n xs) (hk : k ≤ n) :
    w.ownsRow base e size (.slice (some ⟨g, 0, none⟩) k cap) k (xs.take (k * size)) := by
  have hmul : k * size ≤ n * size := Nat.mul_le_mul_right _ hk
  rcases h.2 with ⟨h', _⟩ | ⟨g', cap', cur, h', hbg, hg, hnc, hcm, hcs, htake⟩
  · simp at h'
  · simp only [Value.slice.injEq, Option.some.injEq, Addr.mk.injEq, and_true, true_and] at h'
    obtain ⟨rfl, rfl⟩ := h'
    refine ⟨by rw [List.length_take, h.1]; omega, .inr ⟨g, cap, cur, rfl, hbg, hg, by omega, hcm, hcs, ?_⟩⟩
    rw [← htake, List.take_take, Nat.min_eq_left hmul]

theorem pkCells_length (ps : List Pk) : (pkCells ps).length = ps.length * 3 := by
  induction ps with
  | nil => rfl
  | cons p ps ih =>
    have : pkCells (p :: ps) = p.cells ++ pkCells ps := rfl
    rw [this, List.length_append, ih]; simp [Pk.cells]; omega

theorem pkCells_append (a b : List Pk) : pkCells (a ++ b) = pkCells a ++ pkCells b := by simp [pkCells]

theorem pkCells_take (ps : List Pk) (k : Nat) (h : k ≤ ps.length) : (pkCells ps).take (k * 3) = pkCells (ps.take k) := by
  have : pkCells ps = pkCells (ps.take k) ++ pkCells (ps.drop k) := by rw [← pkCells_append, List.take_append_drop]
  rw [this]
  apply List.take_left'
  rw [pkCells_length, List.length_take]; omega

theorem pkCells_drop (ps : List Pk) (k : Nat) (h : k ≤ ps.length) : (pkCells ps).drop (k * 3) = pkCells (ps.drop k) := by
  have : pkCells ps = pkCells (ps.take k) ++ pkCells (ps.drop k) := by rw [← pkCells_append, List.take_append_drop]
  rw [this]
  apply List.drop_left'
  rw [pkCells_length, List.length_take]; omega

theorem pkCells_one (ps : List Pk) : ∀ u ∈ pkCells ps, u.oneCell' = true := by
  intro u hu
  obtain ⟨p, _, hu⟩ := List.mem_flatMap.1 hu
  exact one_cells p u hu

/-- What slices.Delete of one packet comes to. -/
def Deleted (g n cap : Nat) (ps : List Pk) (i : Nat) (w : World) (e : Ending) (w' : World) : Prop :=
  e = .returned (.slice (some ⟨g, 0, none⟩) (n - 1) cap) ∧ w'.ownsRow 0 40 3 (.slice (some ⟨g, 0, none⟩) (n - 1) cap) (n - 1) (pkCells (ps.eraseIdx i)) ∧ w.grownBy w' (some g)

set_option maxRecDepth 100000 in
set_option maxHeartbeats 400000 in
theorem delete_calls (g n cap i : Nat) (ps : List Pk) (w : World) (hn : n = ps.length) (hlen : n ≤ 256) (hi : i < n) (hown : w.ownsRow 0 40 3 (.slice (some ⟨g, 0, none⟩) n cap) n (pkCells ps)) :
    Calls Try.prog 37 #[.slice (some ⟨g, 0, none⟩) n cap, .int .i64 i, .int .i64 ((i : Int) + 1)] w (Deleted g n cap ps i w) := by
  obtain ⟨i0, hi0, hz0, hz1, hz2⟩ := info_parts info40
  have hnc : n ≤ cap := by
    rcases hown.2 with ⟨h', _⟩ | ⟨g', cap', cur, h', _, _, h2, _⟩
    · simp at h'
    · simp only [Value.slice.injEq, Option.some.injEq, Addr.mk.injEq, and_true, true_and] at h'
      obtain ⟨rfl, rfl⟩ := h'; exact h2
  have hcm : cap ≤ maxLen := by
    rcases hown.2 with ⟨h', _⟩ | ⟨g', cap', cur, h', _, _, h2, h3, _⟩
    · simp at h'
    · simp only [Value.slice.injEq, Option.some.injEq, Addr.mk.injEq, and_true, true_and] at h'
      obtain ⟨rfl, rfl⟩ := h'; exact h3
  have hpre := ownsRow_prefix hown (Nat.le_of_lt hi)
  rw [pkCells_take ps i (by omega)] at hpre
  have s0 : Hid (w.drew.ownsRow 0 40 3 (.slice (some ⟨g, 0, none⟩) i cap) i (pkCells (ps.take i))) := hpre
  have s1 : Hid ((pkCells (ps.drop (i + 1))).length = (n - (i + 1)) * 3) := by unfold Hid; rw [pkCells_length, List.length_drop, hn]
  obtain ⟨A, hA, s2⟩ : ∃ A : Addr, (if cap = i + 1 then some (⟨g, 0, none⟩ : Addr) else some ⟨g, (i + 1) * 3, none⟩) = some A ∧ Hid (∀ j u, (pkCells (ps.drop (i + 1)))[j]? = some u → w.drew.cell? (A.add j) = some u) := by
    by_cases hcap : cap = i + 1
    · refine ⟨⟨g, 0, none⟩, by simp [hcap], fun j u hu => ?_⟩
      have : (pkCells (ps.drop (i + 1))).length = 0 := by rw [s1.out]; omega
      rw [List.length_eq_zero_iff.1 this] at hu
      simp at hu
    · refine ⟨⟨g, (i + 1) * 3, none⟩, by simp [hcap], fun j u hu => ?_⟩
      rw [Addr.add_lit]
      show w.cell? _ = _
      rw [← pkCells_drop ps (i + 1) (by omega), List.getElem?_drop] at hu
      have hlt : (i + 1) * 3 + j < n * 3 := by
        have := (List.getElem?_eq_some_iff.1 hu).1
        rwa [pkCells_length, ← hn] at this
      rw [hown.cellAt _ hlt]; exact hu
  unfold maxLen at hcm
  clear hpre hown
  have s3 : Hid (∀ u ∈ pkCells (ps.drop (i + 1)), u.oneCell' = true) := pkCells_one _
  have HN := Lib.hid hn
  clear hn
  have hic : i ≤ cap := by omega
  have hwr : IntKind.i64.wrap ((i : Int) + 1) = (i : Int) + 1 := by rw [IntKind.wrap_i64]; omega
  have hp0 : (0 : Int) ≤ (i : Int) + 1 := by omega
  have hp1 : (i : Int) + 1 ≤ (n : Int) := by omega
  have hp2 : ((i : Int) + 1).toNat = i + 1 := by omega
  have hne : ((i : Int) == (i : Int) + 1) = false := by rw [beq_eq_false_iff_ne]; omega
  go_enter Try.func37, Try.ntmps37
  go_wp2_with fail
  go_region_law (refine step_append_fits rfl (.tmp 22) (.tmp 25) 45 rfl 0 40 i0 3 Try.underlying45 hi0 hz1 g i cap (pkCells (ps.take i)) (by simp [Act.eval, Act.put]) s0.out A (n - (i + 1)) (cap - (i + 1)) (pkCells (ps.drop (i + 1))) (by simp [Act.eval, Act.put]) s1.out s2.out s3.out (by omega) ?_; intro w4 hown4 hgrow4)
  have hk : i + (n - (i + 1)) = n - 1 := by omega
  rw [hk] at hown4
  have HK := Lib.hid hk
  have HG := Lib.hid hgrow4
  obtain ⟨w5, hclr, hown5, hgrow5⟩ := run_clear_row (P := Try.prog) w4 0 45 0 40 i0 _ 3 Try.underlying45 hi0 hz0 rfl (by decide) g (n - 1) cap _ hown4 (by omega) (cap - (n - 1))
  have hk1 : n - (n - 1) = 1 := by omega
  have hclr' : (Builtin.clear_ #[45] 0 #[.slice (some ⟨g, (n - 1) * 3, none⟩) (n - (n - 1)) (cap - (n - 1))]).run Try.prog w4 = .ok (.tuple #[]) w5 := by rw [hk1]; exact hclr
  clear hclr
  have HO5 := Lib.hid hown5
  have HG5 := Lib.hid hgrow5
  clear hown4 hgrow4 hk hk1 hown5 hgrow5 hA
  rw [HK.out]
  have hq1 : IntKind.i64.wrap ((n - 1 : Nat) : Int) = ((n - 1 : Nat) : Int) := by rw [IntKind.wrap_i64]; omega
  have hq2 : ((n - 1 : Nat) : Int) ≤ (n : Int) := by omega
  go_wp2_with fail
  go_ret
  refine ⟨rfl, ?_, ?_⟩
  · have h1 := HO5.out
    rw [← pkCells_append, ← List.eraseIdx_eq_take_drop_succ] at h1
    exact h1
  · have g4 := HG.out
    have g5 := HG5.out
    exact ⟨g5.os.trans g4.os, g5.tape.trans g4.tape, g5.output.trans g4.output, Nat.le_trans g4.size g5.size, fun k hk hne => (g5.block k (Nat.lt_of_lt_of_le hk g4.size) hne).trans (g4.block k hk hne)⟩
/-- The network with another row of its own. -/
theorem net_rowed {w w3 : World} {B mb g cap cap' n' : Nat} {a : Option Addr} {s : NS} {ps' : List Pk}
    (hB : w.heap[B]? = some (.cells (netCells a s.ps.length cap mb s) 65 (0, 0))) (hnd : (B :: mb :: blk a).Nodup) (hmap : WayMap w mb s.cut) (hn' : n' = ps'.length)
    (hown : w3.ownsRow 0 40 3 (.slice (some ⟨g, 0, none⟩) n' cap') n' (pkCells ps'))
    (hf : Fr w w3 (blk a) [g])
    (hval : ∀ k ∈ B :: mb :: blk a, k < w.heap.size) (hcut : s.cut.Nodup) (hlen : ps'.length ≤ 256) (hs : s.sent ≤ 5000) (hc : s.came ≤ 5000) :
    NetAt (w3.setCell ⟨B, 0, none⟩ (.slice (some ⟨g, 0, none⟩) n' cap')) [B, mb, g] B ⟨ps', s.cut, s.sent, s.came⟩ ∧
    Fr w (w3.setCell ⟨B, 0, none⟩ (.slice (some ⟨g, 0, none⟩) n' cap')) (B :: mb :: blk a) [B, mb, g] := by
  subst hn'
  have hBl := hval B (by simp)
  have hml := hval mb (by simp)
  have hrow : ∀ k, k < w.heap.size → k ∉ blk a → w3.heap[k]? = w.heap[k]? := hf.block
  have hat := hf.src g (by simp)
  simp only [List.nodup_cons, List.mem_cons, not_or] at hnd
  obtain ⟨⟨hBm, hBa⟩, hma, hna⟩ := hnd
  have hgB : g ≠ B := by
    rcases hat with h | h
    · intro e; subst e; exact hBa h
    · omega
  have hgm : g ≠ mb := by
    rcases hat with h | h
    · intro e; subst e; exact hma h
    · omega
  have hB3 : w3.heap[B]? = some (.cells (netCells a s.ps.length cap mb s) 65 (0, 0)) := (hrow B hBl hBa).trans hB
  have k1 := heap_setCell_same w3 B 0 _ 65 (.slice (some ⟨g, 0, none⟩) ps'.length cap') hB3
  have hoth : ∀ k, k ≠ B → (w3.setCell ⟨B, 0, none⟩ (.slice (some ⟨g, 0, none⟩) ps'.length cap')).heap[k]? = w3.heap[k]? := fun k hk => Below.heap_setCell _ _ _ _ hk
  refine ⟨⟨some ⟨g, 0, none⟩, cap', mb, rfl, ?_, ?_, ?_, ?_, hcut, hlen, hs, hc⟩, ?_⟩
  · simp only [List.nodup_cons, List.mem_cons, List.not_mem_nil, or_false, not_or, not_false_iff, and_true, List.nodup_nil]
    exact ⟨⟨hBm, fun e => hgB e.symm⟩, fun e => hgm e.symm⟩
  · rw [k1]; rfl
  · exact ownsRow_kept hown (fun q hq => by cases hq; exact hoth g hgB)
  · obtain ⟨es, c, hm, hk, hes⟩ := hmap
    exact ⟨es, c, by rw [hoth mb (fun e => hBm e.symm), hrow mb hml hma]; exact hm, hk, hes⟩
  · refine ⟨hf.os, hf.tape, hf.output, ?_, fun k hk hn => ?_, fun k hk => ?_⟩
    · have := hf.size; simp at this ⊢; omega
    · simp only [List.mem_cons, not_or] at hn
      rw [hoth k hn.1]; exact hrow k hk hn.2.2
    · simp only [List.mem_cons, List.not_mem_nil, or_false] at hk
      rcases hk with rfl | rfl | rfl
      · exact .inl (by simp)
      · exact .inl (by simp)
      · rcases hat with h | h
        · exact .inl (by simp [h])
        · exact .inr h

theorem Fr.of_grown {w w' : World} {g : Nat} {a : Option Addr} (h : w.grownBy w' (some g)) (hg : g ∈ blk a) : Fr w w' (blk a) [g] :=
  ⟨h.os, h.tape, h.output, h.size, fun k hk hn => h.block k hk (fun e => by cases e; exact hn hg), fun k hk => by simp at hk; subst hk; exact .inl hg⟩

theorem grown_drew {w w3 : World} {r : Option Nat} (h : w.drew.grownBy w3 r) : w.grownBy w3 r := ⟨h.os, h.tape, h.output, h.size, h.block⟩

/-- The first cell of a network, behind an append to its row. -/
theorem app_cell {w w3 : World} {B mb n cap : Nat} {a : Option Addr} {s : NS} {o : Obj} (hB : w.heap[B]? = some (.cells (netCells a n cap mb s) 65 (0, 0))) (hnd : (B :: mb :: blk a).Nodup)
    (hgrow : (w.alloc o).grownBy w3 (Value.slice a n cap).ownBlock) (hlt : B < w.heap.size) : w3.cell? ⟨B, 0, none⟩ = some (.slice a n cap) ∧ w3.frozen? ⟨B, 0, none⟩ = false := by
  have h := netCell (net_block hB hnd hgrow hlt)
  exact ⟨h.1, h.2.2.2.2 0⟩

theorem cell_past {w : World} {a : Addr} {v : Value} (o : Obj) (h : w.cell? a = some v) : (w.alloc o).cell? a = some v :=
  Lib.cell?_alloc_marked o h

theorem val_cells (p : Pk) : p.val.cells = #[.int .i64 p.src, .int .i64 p.dst, .string p.txt] := rfl

set_option maxRecDepth 100000 in
set_option maxHeartbeats 400000 in
theorem lose_no (fp : List Nat) (B : Nat) (s : NS) (w : World) (i : Int) (hn : NetAt w fp B s) (hi : i < 0 ∨ (s.ps.length : Int) ≤ i) :
    Calls Try.prog 25 #[.pointer (some ⟨B, 0, none⟩), .int .i64 i] w fun e w' => e = .returned (.bool false) ∧ Below w.heap.size w w' := by
  have HN := Lib.hid hn
  clear hn
  have HI := Lib.hid hi
  clear hi
  go_enter Try.func25, Try.ntmps25
  go_wp2_with fail
  refine (look_no _ _ _ _ _ HN.out HI.out).mono ?_
  rintro e w1 ⟨rfl, hb1⟩
  have HB := Lib.hid hb1
  have hsz := hb1.size
  clear hb1
  unfold Pk.val Pk.zero
  go_wp2_with fail
  go_ret
  exact ⟨rfl, HB.out.alloc hsz _⟩

set_option maxRecDepth 100000 in
set_option maxHeartbeats 400000 in
theorem lose_yes (fp : List Nat) (B : Nat) (s : NS) (w : World) (i : Nat) (hn : NetAt w fp B s) (hi : i < s.ps.length) :
    Calls Try.prog 25 #[.pointer (some ⟨B, 0, none⟩), .int .i64 i] w (Did (.bool true) w fp B ⟨s.ps.eraseIdx i, s.cut, s.sent, s.came⟩) := by
  have HN := Lib.hid hn
  clear hn
  go_enter Try.func25, Try.ntmps25
  go_wp2_with fail
  refine (look_yes _ _ _ _ _ HN.out hi).mono ?_
  rintro e w1 ⟨rfl, hb1⟩
  have HB1 := Lib.hid hb1
  have hsz := hb1.size
  clear hb1
  generalize s.ps.getD i Pk.zero = p
  unfold Pk.val
  have hn2 := NetAt.below HN.out (HB1.out.alloc hsz (.cells #[.int .i64 p.src, .int .i64 p.dst, .string p.txt] 40))
  have HN2 := Lib.hid hn2
  obtain ⟨a, cap, mb, rfl, hnd, hB, hown, hmap, hcut, hlen, hsent, hcame⟩ := hn2
  obtain ⟨c0, c1, c2, c3, cf⟩ := netCell hB
  obtain ⟨g, cap', hv, _, _⟩ := hown.form (by omega)
  cases hv
  have HB2 := Lib.hid hB
  have HND := Lib.hid hnd
  have HM2 := Lib.hid hmap
  have HOW := Lib.hid hown
  have HV := Lib.hid HN2.out.valid
  have HFB : Hid (Fr w (w1.alloc (.cells #[.int .i64 p.src, .int .i64 p.dst, .string p.txt] 40)) (B :: mb :: blk (some ⟨g, 0, none⟩)) (B :: mb :: blk (some ⟨g, 0, none⟩))) := Fr.of_below (HB1.out.alloc hsz _) _
  have hBg : B ≠ g := by
    simp only [List.nodup_cons, List.mem_cons, not_or, blk] at hnd
    intro e; exact hnd.1.2 (by simp [e])
  clear hB hnd hmap hown
  go_wp2_with fail
  generalize w1.alloc (.cells #[.int .i64 p.src, .int .i64 p.dst, .string p.txt] 40) = w2 at HN2 HB2 HM2 HOW c0 c1 c2 c3 cf HV HFB
  refine (delete_calls g s.ps.length cap i s.ps w2 rfl hlen hi HOW.out).mono ?_
  rintro e w3 ⟨rfl, hown3, hgrow3⟩
  have hB3 : w3.heap[B]? = some (.cells (netCells (some ⟨g, 0, none⟩) s.ps.length cap mb s) 65 (0, 0)) := (hgrow3.block B (HV.out B (by simp)) (fun e => hBg (by cases e; rfl))).trans HB2.out
  have HN3 := Lib.hid (net_rowed HB2.out HND.out HM2.out (by rw [List.length_eraseIdx_of_lt hi]) hown3 (Fr.of_grown hgrow3 (by simp [blk])) HV.out hcut (by rw [List.length_eraseIdx_of_lt hi]; omega) hsent hcame)
  clear c0 c1 c2 c3 cf hown3 hgrow3
  obtain ⟨c0, c1, c2, c3, cf⟩ := netCell hB3
  clear hB3
  go_wp2_with fail
  go_ret
  exact ⟨_, rfl, HN3.out.1, HFB.out.trans HN3.out.2⟩
set_option maxRecDepth 100000 in
set_option maxHeartbeats 400000 in
theorem double_no (fp : List Nat) (B : Nat) (s : NS) (w : World) (i : Int) (hn : NetAt w fp B s) (hi : i < 0 ∨ (s.ps.length : Int) ≤ i) :
    Calls Try.prog 22 #[.pointer (some ⟨B, 0, none⟩), .int .i64 i] w fun e w' => e = .returned (.bool false) ∧ Below w.heap.size w w' := by
  have HN := Lib.hid hn
  clear hn
  have HI := Lib.hid hi
  clear hi
  go_enter Try.func22, Try.ntmps22
  go_wp2_with fail
  refine (look_no _ _ _ _ _ HN.out HI.out).mono ?_
  rintro e w1 ⟨rfl, hb1⟩
  have HB := Lib.hid hb1
  have hsz := hb1.size
  clear hb1
  unfold Pk.val Pk.zero
  go_wp2_with fail
  go_ret
  exact ⟨rfl, HB.out.alloc hsz _⟩

set_option maxRecDepth 100000 in
set_option maxHeartbeats 400000 in
theorem double_full (fp : List Nat) (B : Nat) (s : NS) (w : World) (i : Nat) (hn : NetAt w fp B s) (hi : i < s.ps.length) (hfull : 256 ≤ s.ps.length) :
    Calls Try.prog 22 #[.pointer (some ⟨B, 0, none⟩), .int .i64 i] w fun e w' => e = .returned (.bool false) ∧ Below w.heap.size w w' := by
  have HN := Lib.hid hn
  clear hn
  go_enter Try.func22, Try.ntmps22
  go_wp2_with fail
  refine (look_yes _ _ _ _ _ HN.out hi).mono ?_
  rintro e w1 ⟨rfl, hb1⟩
  have HB1 := Lib.hid hb1
  have hsz := hb1.size
  clear hb1
  generalize s.ps.getD i Pk.zero = p
  unfold Pk.val
  have hn2 := NetAt.below HN.out (HB1.out.alloc hsz (.cells #[.int .i64 p.src, .int .i64 p.dst, .string p.txt] 40))
  obtain ⟨a, cap, mb, rfl, hnd, hB, _⟩ := hn2
  obtain ⟨c0, c1, c2, c3, cf⟩ := netCell hB
  clear hB hnd
  go_wp2_with fail
  go_ret
  exact ⟨rfl, HB1.out.alloc hsz _⟩

set_option maxRecDepth 100000 in
set_option maxHeartbeats 400000 in
theorem double_yes (fp : List Nat) (B : Nat) (s : NS) (w : World) (i : Nat) (hn : NetAt w fp B s) (hi : i < s.ps.length) (hroom : s.ps.length < 256) :
    Calls Try.prog 22 #[.pointer (some ⟨B, 0, none⟩), .int .i64 i] w (Did (.bool true) w fp B ⟨s.ps ++ [s.ps.getD i Pk.zero], s.cut, s.sent, s.came⟩) := by
  have HN := Lib.hid hn
  clear hn
  obtain ⟨i0, hi0, hz0, hz1, hz2⟩ := info_parts info40
  go_enter Try.func22, Try.ntmps22
  go_wp2_with fail
  refine (look_yes _ _ _ _ _ HN.out hi).mono ?_
  rintro e w1 ⟨rfl, hb1⟩
  have HB1 := Lib.hid hb1
  have hsz := hb1.size
  clear hb1
  generalize hp : s.ps.getD i Pk.zero = p
  have HP := Lib.hid hp
  clear hp
  unfold Pk.val
  have hn2 := NetAt.below HN.out (HB1.out.alloc hsz (.cells #[.int .i64 p.src, .int .i64 p.dst, .string p.txt] 40))
  have HN2 := Lib.hid hn2
  obtain ⟨a, cap, mb, rfl, hnd, hB, hown, hmap, hcut, hlen, hsent, hcame⟩ := hn2
  obtain ⟨c0, c1, c2, c3, cf⟩ := netCell hB
  have HB2 := Lib.hid hB
  have HND := Lib.hid hnd
  have HM2 := Lib.hid hmap
  have HV := Lib.hid HN2.out.valid
  have s0 : Hid (((w1.alloc (.cells #[.int .i64 p.src, .int .i64 p.dst, .string p.txt] 40)).alloc (.cells #[.int .i64 p.src, .int .i64 p.dst, .string p.txt] 40)).drew.ownsRow 0 40 3 (.slice a s.ps.length cap) s.ps.length (pkCells s.ps)) := (hown.alloc _).drew
  have s1 : Hid (∀ j u, p.cells[j]? = some u → ((w1.alloc (.cells #[.int .i64 p.src, .int .i64 p.dst, .string p.txt] 40)).alloc (.cells #[.int .i64 p.src, .int .i64 p.dst, .string p.txt] 40)).drew.cell? ((⟨w1.heap.size + 1, 0, none⟩ : Addr).add j) = some u) := by
    have := new_cells (w1.alloc (.cells #[.int .i64 p.src, .int .i64 p.dst, .string p.txt] 40)) p (0, 0)
    rw [World.size_alloc] at this
    exact this
  have s2 := Lib.hid (one_cells p)
  have hlenN : s.ps.length + 1 ≤ maxLen := by simp only [maxLen]; omega
  have s3 := Lib.hid hlenN
  have HFB : Hid (Fr w (w1.alloc (.cells #[.int .i64 p.src, .int .i64 p.dst, .string p.txt] 40)) (B :: mb :: blk a) (B :: mb :: blk a)) := Fr.of_below (HB1.out.alloc hsz _) _
  have d0 := cell_past (.cells #[.int .i64 p.src, .int .i64 p.dst, .string p.txt] 40) c0
  clear hB hnd hmap hown hlenN
  go_wp2_with fail
  go_region_law (refine step_append_lies _ rfl (.tmp 27) (.tmp 29) 45 rfl 0 40 i0 _ 3 32 Try.underlying45 hi0 hz0 hz1 hz2 rfl (by decide) _ s.ps.length _ (by simp [Act.eval]) s0.out ⟨w1.heap.size + 1, 0, none⟩ 1 1 p.cells (by simp [Act.eval]) rfl s1.out s2.out (by omega) s3.out (by omega) (by omega) _ rfl ?_; intro g cap' w3 hown3 hgrow3 hat3 hlt3; have HG3 := Lib.hid (grown_drew hgrow3); obtain ⟨e0, ef⟩ := app_cell HB2.out HND.out HG3.out (HV.out B (by simp)); clear hgrow3)
  all_goals
    have hat : (Value.slice a s.ps.length cap).ownBlock = some g ∨ g = (w1.alloc (.cells #[.int .i64 p.src, .int .i64 p.dst, .string p.txt] 40)).heap.size + 1 := hat3.imp id (fun h => by rw [h]; simp)
    rw [← pkCells_put] at hown3
    have HN3 := Lib.hid (net_appended HB2.out HND.out HM2.out (by simp) hown3 HG3.out hat HV.out hcut (by simp; omega) hsent hcame)
    clear c0 c1 c2 c3 cf d0 e0 ef hat hown3 hat3 hlt3
    go_wp2_with fail
    go_ret
    exact ⟨_, rfl, by rw [HP.out]; exact HN3.out.1, HFB.out.trans HN3.out.2⟩
end Go.Proofs.Ytjeiakfdjbnkaaa

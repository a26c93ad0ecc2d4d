/-
  The network's methods, each with all its outcomes in one contract.
-/
import Derived.Test.YtjeiakfdjbnkaaaNetOps
import Derived.WalkKit
import Derived.Below
import Derived.Deep.AppendLies
import Derived.Deep.RegionLaw
import Derived.Laws.StructEq
import Derived.Laws.Strings
import Derived.ProofKit
namespace Go.Proofs.Ytjeiakfdjbnkaaa
open Go.RowKit
set_option linter.unusedVariables false

theorem send_any (fp : List Nat) (B : Nat) (s : NS) (w : World) (p : Pk) (hn : NetAt w fp B s) (hs : s.sent < 5000) :
    Calls Try.prog 21 #[.pointer (some ⟨B, 0, none⟩), .int .i64 p.src, .int .i64 p.dst, .string p.txt] w fun e w' => ∃ fq s', NetAt w' fq B s' ∧ Fr w w' fp fq ∧
      ((e = .returned (.bool true) ∧ s' = ⟨s.ps ++ [p], s.cut, s.sent + 1, s.came⟩ ∧ s.ps.length < 256) ∨ (e = .returned (.bool false) ∧ s' = s ∧ 256 ≤ s.ps.length)) := by
  by_cases h : s.ps.length < 256
  · exact (send_calls fp B s w p hn hs h).mono fun e w' ⟨fq, he, h1, h2⟩ => ⟨fq, _, h1, h2, .inl ⟨he, rfl, h⟩⟩
  · exact (send_full fp B s w p hn (by omega)).mono fun e w' ⟨he, hw⟩ => ⟨fp, s, hw ▸ hn, hw ▸ Fr.refl w fp, .inr ⟨he, rfl, by omega⟩⟩

/-- An index is out of range, or a place. -/
theorem in_out (i : Int) (n : Nat) : (i < 0 ∨ (n : Int) ≤ i) ∨ ∃ j : Nat, i = j ∧ j < n := by
  by_cases h : 0 ≤ i
  · by_cases h2 : i < n
    · exact .inr ⟨i.toNat, by omega, by omega⟩
    · exact .inl (.inr (by omega))
  · exact .inl (.inl (by omega))

theorem lose_any (fp : List Nat) (B : Nat) (s : NS) (w : World) (i : Int) (hn : NetAt w fp B s) :
    Calls Try.prog 25 #[.pointer (some ⟨B, 0, none⟩), .int .i64 i] w fun e w' => ∃ fq s', NetAt w' fq B s' ∧ Fr w w' fp fq ∧
      ((e = .returned (.bool false) ∧ s' = s ∧ (i < 0 ∨ (s.ps.length : Int) ≤ i)) ∨ (∃ j : Nat, i = j ∧ j < s.ps.length ∧ e = .returned (.bool true) ∧ s' = ⟨s.ps.eraseIdx j, s.cut, s.sent, s.came⟩)) := by
  rcases in_out i s.ps.length with h | ⟨j, rfl, hj⟩
  · exact (lose_no fp B s w i hn h).mono fun e w' ⟨he, hb⟩ => ⟨fp, s, hn.below hb, Fr.of_below hb fp, .inl ⟨he, rfl, h⟩⟩
  · exact (lose_yes fp B s w j hn hj).mono fun e w' ⟨fq, he, h1, h2⟩ => ⟨fq, _, h1, h2, .inr ⟨j, rfl, hj, he, rfl⟩⟩

theorem double_any (fp : List Nat) (B : Nat) (s : NS) (w : World) (i : Int) (hn : NetAt w fp B s) :
    Calls Try.prog 22 #[.pointer (some ⟨B, 0, none⟩), .int .i64 i] w fun e w' => ∃ fq s', NetAt w' fq B s' ∧ Fr w w' fp fq ∧
      ((e = .returned (.bool false) ∧ s' = s ∧ ((i < 0 ∨ (s.ps.length : Int) ≤ i) ∨ 256 ≤ s.ps.length)) ∨
       (∃ j : Nat, i = j ∧ j < s.ps.length ∧ s.ps.length < 256 ∧ e = .returned (.bool true) ∧ s' = ⟨s.ps ++ [s.ps.getD j Pk.zero], s.cut, s.sent, s.came⟩)) := by
  rcases in_out i s.ps.length with h | ⟨j, rfl, hj⟩
  · exact (double_no fp B s w i hn h).mono fun e w' ⟨he, hb⟩ => ⟨fp, s, hn.below hb, Fr.of_below hb fp, .inl ⟨he, rfl, .inl h⟩⟩
  · by_cases hf : s.ps.length < 256
    · exact (double_yes fp B s w j hn hj hf).mono fun e w' ⟨fq, he, h1, h2⟩ => ⟨fq, _, h1, h2, .inr ⟨j, rfl, hj, hf, he, rfl⟩⟩
    · exact (double_full fp B s w j hn hj (by omega)).mono fun e w' ⟨he, hb⟩ => ⟨fp, s, hn.below hb, Fr.of_below hb fp, .inl ⟨he, rfl, .inr (by omega)⟩⟩

theorem look_any (fp : List Nat) (B : Nat) (s : NS) (w : World) (i : Int) (hn : NetAt w fp B s) :
    Calls Try.prog 26 #[.pointer (some ⟨B, 0, none⟩), .int .i64 i] w fun e w' => Below w.heap.size w w' ∧
      ∃ p b, e = .returned (.tuple #[.agg #[.int .i64 (Pk.src p), .int .i64 p.dst, .string p.txt], .bool b]) ∧ ((b = false ∧ p = Pk.zero ∧ (i < 0 ∨ (s.ps.length : Int) ≤ i)) ∨ (b = true ∧ ∃ j : Nat, i = j ∧ j < s.ps.length ∧ p = s.ps.getD j Pk.zero)) := by
  rcases in_out i s.ps.length with h | ⟨j, rfl, hj⟩
  · exact (look_no fp B s w i hn h).mono fun e w' ⟨he, hb⟩ => ⟨hb, _, _, he, .inl ⟨rfl, rfl, h⟩⟩
  · exact (look_yes fp B s w j hn hj).mono fun e w' ⟨he, hb⟩ => ⟨hb, _, _, he, .inr ⟨rfl, j, rfl, hj, rfl⟩⟩

theorem take_any (fp : List Nat) (B : Nat) (s : NS) (w : World) (i : Int) (hn : NetAt w fp B s) (hc : s.came < 5000) :
    Calls Try.prog 27 #[.pointer (some ⟨B, 0, none⟩), .int .i64 i] w fun e w' => ∃ fq s', NetAt w' fq B s' ∧ Fr w w' fp fq ∧
      ∃ p b, e = .returned (.tuple #[.agg #[.int .i64 (Pk.src p), .int .i64 p.dst, .string p.txt], .bool b]) ∧
      ((b = false ∧ p = Pk.zero ∧ s' = s ∧ (i < 0 ∨ (s.ps.length : Int) ≤ i)) ∨
       (∃ j : Nat, i = j ∧ j < s.ps.length ∧ ((b = false ∧ p = Pk.zero ∧ hasWay s.cut (btw (s.ps.getD j Pk.zero).src (s.ps.getD j Pk.zero).dst) = true ∧ s' = ⟨s.ps.eraseIdx j, s.cut, s.sent, s.came⟩) ∨
         (b = true ∧ p = s.ps.getD j Pk.zero ∧ hasWay s.cut (btw (s.ps.getD j Pk.zero).src (s.ps.getD j Pk.zero).dst) = false ∧ s' = ⟨s.ps.eraseIdx j, s.cut, s.sent, s.came + 1⟩)))) := by
  rcases in_out i s.ps.length with h | ⟨j, rfl, hj⟩
  · exact (take_no fp B s w i hn h).mono fun e w' ⟨he, hb⟩ => ⟨fp, s, hn.below hb, Fr.of_below hb fp, _, _, he, .inl ⟨rfl, rfl, rfl, h⟩⟩
  · by_cases hw : hasWay s.cut (btw (s.ps.getD j Pk.zero).src (s.ps.getD j Pk.zero).dst) = true
    · exact (take_cut fp B s w j hn hj hw).mono fun e w' ⟨fq, he, h1, h2⟩ => ⟨fq, _, h1, h2, _, _, he, .inr ⟨j, rfl, hj, .inl ⟨rfl, rfl, hw, rfl⟩⟩⟩
    · have hw' : hasWay s.cut (btw (s.ps.getD j Pk.zero).src (s.ps.getD j Pk.zero).dst) = false := by simpa using hw
      exact (take_yes fp B s w j hn hj (by omega) hw').mono fun e w' ⟨fq, he, h1, h2⟩ => ⟨fq, _, h1, h2, _, _, he, .inr ⟨j, rfl, hj, .inr ⟨rfl, rfl, hw', rfl⟩⟩⟩

/-- Two packets are the same. -/
def Pk.same (p q : Pk) : Bool := p.src == q.src && p.dst == q.dst && decide (p.txt = q.txt)
theorem Pk.same_iff (p q : Pk) : p.same q = true ↔ p = q := by
  cases p; cases q; simp [Pk.same, and_assoc]
set_option maxRecDepth 100000 in
@[go_sem high] theorem eq40 (p q : Pk) (w : World) : (Op.equalIn 10000 40 (.agg #[.int .i64 p.src, .int .i64 p.dst, .string p.txt]) (.agg #[.int .i64 q.src, .int .i64 q.dst, .string q.txt])).run Try.prog w = .ok (p.same q) w := by
  have u3 := Try.underlying3
  have u9 := Try.underlying9
  rw [show (10000 : Nat) = 9999 + 1 from rfl, run_equalIn_agg w 9999 40 _ _ (by kernel_rfl) (by kernel_rfl)]
  simp only [Program.fieldsOf, Try.underlying40]
  go_simp
  have ht : ∀ a b : ByteArray, a.toList = b.toList ↔ a = b := fun a b => by
    constructor
    · intro h
      have h2 : a.data.toList = b.data.toList := by rw [← ByteArray.toList_eq a, ← ByteArray.toList_eq b, h]
      cases a; cases b; simp_all
    · rintro rfl; rfl
  unfold Pk.same
  by_cases h1 : p.src = q.src <;> by_cases h2 : p.dst = q.dst <;> by_cases h3 : p.txt = q.txt <;> simp [h1, h2, h3, ht]

/-- What an append may do, beside its row. -/
def Beside (w w' : World) (g0 : Nat) : Prop :=
  (w'.os = w.os ∧ w'.tape = w.tape ∧ w'.output = w.output ∧ w.heap.size ≤ w'.heap.size) ∧ ∀ k, k < w.heap.size → k ≠ g0 → w'.heap[k]? = w.heap[k]?

/-- append of whatever lies in memory, none included, onto a row of the call's own, as one step of a region that draws. -/
theorem step_append_any {P : Program} {ops : Array Oper} {o : Oper} {a : Act} {w : World} {K : Act → World → Prop} {Q : Exit → Act → World → Prop} {E : Prop} (hgd : o.guard = none) (s x : Operand) (t : TypeId)
    (ho : o.op = .call { callee := .builtin .append, args := #[s, x], argTypes := #[t, t] })
    (e : TypeId) (i : TypeInfo) (z : Value) (size bytes : Nat) (ht : P.underlying t = some (.slice e)) (hi : P.info? e = some i) (hz : i.zero = some z)
    (hsize : i.size = size) (hby : i.bytes = bytes) (hzs : z.cells.size = size) (hsz : 0 < size)
    (g0 n cap0 : Nat) (xs : List Value) (hs : a.eval s = .slice (some ⟨g0, 0, none⟩) n cap0) (hown : w.ownsRow 0 e size (.slice (some ⟨g0, 0, none⟩) n cap0) n xs)
    (ad : Addr) (m c : Nat) (news : List Value) (hx : a.eval x = .slice (some ad) m c) (hl : news.length = m * size) (hnews : ∀ j u, news[j]? = some u → w.cell? (ad.add j) = some u) (h1 : ∀ u ∈ news, u.oneCell' = true)
    (h63 : n + m ≤ maxLen) (hbytes : (n + m) * bytes ≤ 140737488355328) (n' : Nat) (hn' : n' = n + m)
    (h : ∀ g cap w', w'.ownsRow 0 e size (.slice (some ⟨g, 0, none⟩) n' cap) n' (xs ++ news) → Beside w w' g0 → (g = g0 ∨ g = w.heap.size) → K (a.put o.dst (.slice (some ⟨g, 0, none⟩) n' cap)) w') :
    if Region.wanted o (yielded ops a.tmps) = true then Oper.wp P o a w K Q else E := by
  subst hn'
  by_cases hm : 0 < m
  · refine step_append_lies _ hgd s x t ho 0 e i z size bytes ht hi hz hsize hby hzs hsz _ n xs hs hown ad m c news hx hl hnews h1 hm h63 hbytes (Nat.zero_le _) _ rfl ?_
    intro g cap w' k1 k2 k3 _
    refine h g cap w' k1 ⟨⟨k2.os, k2.tape, k2.output, k2.size⟩, fun k hk hne => k2.block k hk (fun he => hne (by cases he; rfl))⟩ (k3.imp (fun he => by cases he; rfl) id)
  · obtain rfl : m = 0 := by omega
    have hnc : n ≤ cap0 := by
      rcases hown.2 with ⟨h', _⟩ | ⟨g', cap', cur, h', _, _, h2, _⟩
      · simp at h'
      · simp only [Value.slice.injEq, Option.some.injEq, Addr.mk.injEq, and_true, true_and] at h'
        obtain ⟨rfl, rfl⟩ := h'; exact h2
    refine step_append_fits hgd s x t ho 0 e i size ht hi hsize g0 n cap0 xs hs hown ad 0 c news hx hl hnews h1 (by omega) ?_
    intro w' k1 k2
    exact h g0 cap0 w' k1 ⟨⟨k2.os, k2.tape, k2.output, k2.size⟩, fun k hk hne => k2.block k hk (fun he => hne (by cases he; rfl))⟩ (.inl rfl)

theorem owns_empty (w : World) : (w.alloc (.cells #[] 40)).ownsRow 0 40 3 (.slice (some ⟨w.heap.size, 0, none⟩) 0 0) 0 [] :=
  ⟨rfl, .inr ⟨w.heap.size, 0, #[], rfl, Nat.zero_le _, heap_alloc_new w _, Nat.le_refl _, by simp [maxLen], rfl, rfl⟩⟩

end Go.Proofs.Ytjeiakfdjbnkaaa

/-
  The walk of the reference's Lose.
-/
import Derived.Test.YtjeiakfdjbnkaaaRefSend
import Derived.Deep.RegionLaw
import Derived.Deep.AppendLies
import Derived.WalkKit
import Derived.WalkSpells
import Derived.WalkLawsBesides
import Derived.Below
import Derived.Lib.Hide
import Derived.Outline
import Derived.Deep.RegionWith
namespace Go.Proofs.Ytjeiakfdjbnkaaa
open Go.RowKit
set_option linter.unusedVariables false

theorem wpList_append_any {P : Program} {ops : Array Oper} {rest : List Oper} {o : Oper} {a : Act} {w : World} {Q : Exit → Act → World → Prop} (hgd : o.guard = none) (s x : Operand) (t : TypeId)
    (ho : o.op = .call { callee := .builtin .append, args := #[s, x], argTypes := #[t, t] })
    (e : TypeId) (i : TypeInfo) (z : Value) (size bytes : Nat) (ht : P.underlying t = some (.slice e)) (hi : P.info? e = some i) (hz : i.zero = some z)
    (hsize : i.size = size) (hby : i.bytes = bytes) (hzs : z.cells.size = size) (hsz : 0 < size)
    (g0 n cap0 : Nat) (xs : List Value) (hs : a.eval s = .slice (some ⟨g0, 0, none⟩) n cap0) (hown : w.ownsRow 0 e size (.slice (some ⟨g0, 0, none⟩) n cap0) n xs)
    (ad : Addr) (m c : Nat) (news : List Value) (hx : a.eval x = .slice (some ad) m c) (hl : news.length = m * size) (hnews : ∀ j u, news[j]? = some u → w.cell? (ad.add j) = some u) (h1 : ∀ u ∈ news, u.oneCell' = true)
    (h63 : n + m ≤ maxLen) (hbytes : (n + m) * bytes ≤ 140737488355328) (n' : Nat) (hn' : n' = n + m)
    (h : ∀ g cap w', w'.ownsRow 0 e size (.slice (some ⟨g, 0, none⟩) n' cap) n' (xs ++ news) → Beside w w' g0 → (g = g0 ∨ g = w.heap.size) → wpList P ops Q rest (a.put o.dst (.slice (some ⟨g, 0, none⟩) n' cap)) w') : wpList P ops Q (o :: rest) a w :=
  wpList_plain hgd fun K hK => by
    have h2 := step_append_any (P := P) (ops := ops) (E := True) (K := K) (Q := Q) hgd s x t ho e i z size bytes ht hi hz hsize hby hzs hsz g0 n cap0 xs hs hown ad m c news hx hl hnews h1 h63 hbytes n' hn'
      (fun g cap w' k1 k2 k3 => hK _ _ (h g cap w' k1 k2 k3))
    rwa [if_pos (by simp [Region.wanted, hgd])] at h2

set_option maxRecDepth 100000 in
set_option maxHeartbeats 400000 in
theorem reflose_no (fp : List Nat) (R : Nat) (s : RS) (w : World) (i : Int) (hn : RefAt w fp R s) (hi : i < 0 ∨ (s.ps.length : Int) ≤ i) :
    Calls Try.prog 41 #[.pointer (some ⟨R, 0, none⟩), .int .i64 i] w fun e w' => e = .returned (.bool false) ∧ w = w' := by
  have HN := Lib.hid hn
  have hd : decide (0 ≤ i ∧ i < s.ps.length) = false := by simp; omega
  have HD := Lib.hid hd
  clear hn hi hd
  go_enter Try.func41, Try.ntmps41
  go_wp2_with fail
  refine (there_calls _ _ _ _ _ HN.out).mono ?_
  rintro e w' ⟨rfl, rfl⟩
  rw [HD.out]
  go_wp2_with fail
  go_ret
  exact ⟨rfl, rfl⟩

set_option maxRecDepth 100000 in
set_option maxHeartbeats 400000 in
theorem reflose_yes (fp : List Nat) (R : Nat) (s : RS) (w : World) (F : Nat) (hn : RefAt w fp R s) (hF : F < s.ps.length) :
    Calls Try.prog 41 #[.pointer (some ⟨R, 0, none⟩), .int .i64 F] w (RDid (.bool true) w fp R ⟨s.ps.eraseIdx F, s.ws, s.sent, s.came⟩) := by
  have HN := Lib.hid hn
  have hd : decide (0 ≤ (F : Int) ∧ (F : Int) < s.ps.length) = true := by simp; omega
  have HD := Lib.hid hd
  obtain ⟨la, lc, wa, wc, rfl, hnd, hR, hl, hw, hlen, hws, hs, hc⟩ := hn
  obtain ⟨g, lc', hv, _, hg⟩ := hl.form (by omega)
  simp only [Value.slice.injEq, true_and] at hv
  obtain ⟨rfl, rfl⟩ := hv
  obtain ⟨c0, c1, c2, c3, cf⟩ := refCell hR
  obtain ⟨i0, hi, hz0, hz1, hz2⟩ := info_parts info40
  have hocl : s.ps.length ≤ lc := by
    rcases hl.2 with ⟨h', _⟩ | ⟨g', cap', cur, h', _, _, h2, _⟩
    · simp at h'
    · simp only [Value.slice.injEq, Option.some.injEq, Addr.mk.injEq, and_true, true_and] at h'
      obtain ⟨rfl, rfl⟩ := h'; exact h2
  have hocm : lc ≤ maxLen := by
    rcases hl.2 with ⟨h', _⟩ | ⟨g', cap', cur, h', _, _, h2, h3, _⟩
    · simp at h'
    · simp only [Value.slice.injEq, Option.some.injEq, Addr.mk.injEq, and_true, true_and] at h'
      obtain ⟨rfl, rfl⟩ := h'; exact h3
  unfold maxLen at hocm
  have S0 : Hid (∀ w5 : World, w5.heap[g]? = w.heap[g]? → ∀ q u, (pkCells (s.ps.take F))[q]? = some u → w5.cell? ((⟨g, 0, none⟩ : Addr).add q) = some u) := by
    intro w5 h5 q u hu
    have e1 : (⟨g, 0, none⟩ : Addr).add q = ⟨g, q, none⟩ := by rw [Addr.add_lit, Nat.zero_add]
    rw [e1, World.cell?_of_block (w := w) h5, hl.cellAt q (by
      have := (List.getElem?_eq_some_iff.1 hu).1
      rw [pkCells_length, List.length_take] at this
      omega)]
    rw [← pkCells_take s.ps F (by omega), List.getElem?_take] at hu
    split at hu
    · exact hu
    · cases hu
  have S1 : Hid ((pkCells (s.ps.take F)).length = F * 3) := by unfold Hid; rw [pkCells_length, List.length_take]; omega
  have S2 : Hid ((pkCells (s.ps.drop (F + 1))).length = (s.ps.length - (F + 1)) * 3) := by unfold Hid; rw [pkCells_length, List.length_drop]
  obtain ⟨D, hD, S3⟩ : ∃ D : Addr, (if lc = F + 1 then some (⟨g, 0, none⟩ : Addr) else some ⟨g, (F + 1) * 3, none⟩) = some D ∧
      Hid (∀ w5 : World, w5.heap[g]? = w.heap[g]? → ∀ q u, (pkCells (s.ps.drop (F + 1)))[q]? = some u → w5.cell? (D.add q) = some u) := by
    by_cases hcap : lc = F + 1
    · refine ⟨⟨g, 0, none⟩, by simp [hcap], fun w5 h5 q u hu => ?_⟩
      have : (pkCells (s.ps.drop (F + 1))).length = 0 := by rw [S2.out]; omega
      rw [List.length_eq_zero_iff.1 this] at hu
      simp at hu
    · refine ⟨⟨g, (F + 1) * 3, none⟩, by simp [hcap], fun w5 h5 q u hu => ?_⟩
      rw [Addr.add_lit, World.cell?_of_block (w := w) h5]
      rw [← pkCells_drop s.ps (F + 1) (by omega), List.getElem?_drop] at hu
      have hlt : (F + 1) * 3 + q < s.ps.length * 3 := by
        have := (List.getElem?_eq_some_iff.1 hu).1
        rwa [pkCells_length] at this
      rw [hl.cellAt _ hlt]; exact hu
  have S4 : Hid (∀ u ∈ pkCells (s.ps.take F), u.oneCell' = true) := pkCells_one _
  have S5 : Hid (∀ u ∈ pkCells (s.ps.drop (F + 1)), u.oneCell' = true) := pkCells_one _
  have S6 := Lib.hid (owns_empty w)
  have HGW := Lib.hid hg
  have HR := Lib.hid hR
  have HND := Lib.hid hnd
  have HW := Lib.hid hw
  have hlt := (Array.getElem?_eq_some_iff.1 hR).1
  have HLT := Lib.hid hlt
  have hFc : F ≤ lc := by omega
  have hwr : IntKind.i64.wrap ((F : Int) + 1) = (F : Int) + 1 := by rw [IntKind.wrap_i64]; omega
  have hp0 : (0 : Int) ≤ (F : Int) + 1 := by omega
  have hp1 : (F : Int) + 1 ≤ (s.ps.length : Int) := by omega
  have hp2 : ((F : Int) + 1).toNat = F + 1 := by omega
  have d0 := cell_past (.cells #[] 40) c0
  clear hR hl hw hnd hg hd hlt
  go_enter Try.func41, Try.ntmps41
  go_wp2_with fail
  refine (there_calls _ _ _ _ _ HN.out).mono ?_
  rintro e w' ⟨rfl, rfl⟩
  rw [HD.out]
  go_wp2_with (at_builtin; go_loud (refine wpList_append_any rfl (.tmp 10) (.tmp 16) 45 rfl 40 i0 _ 3 32 Try.underlying45 hi hz0 hz1 hz2 rfl (by decide) w.heap.size 0 0 [] rfl S6.out ⟨g, 0, none⟩ F lc (pkCells (s.ps.take F)) rfl S1.out (S0.out _ (Below.heap_alloc _ _ _ HGW.out)) S4.out ?c5 ?c6 F ?c7 ?c8))
  case c5 => simp only [maxLen]; omega
  case c6 => omega
  case c7 => omega
  case c8 =>
    intro g5 cap5 w5 hown5 hbes5 hat5
    have hz5 : w.heap.size + 1 ≤ w5.heap.size := by
      have h0 := hbes5.1.2.2.2
      simpa using h0
    have hg5 : w.heap.size ≤ g5 := by
      rcases hat5 with h0 | h0
      · omega
      · rw [h0]; simp
    have hk5 : ∀ q, q < w.heap.size → w5.heap[q]? = w.heap[q]? := fun q hq => (hbes5.2 q (by simp; omega) (by omega)).trans (Below.heap_alloc _ _ _ hq)
    have hR5 : w5.heap[R]? = some (.cells (refCells (some ⟨g, 0, none⟩) s.ps.length lc wa s.ws.length wc s.sent s.came) 56 (0, 0)) := (hk5 R HLT.out).trans HR.out
    obtain ⟨f0, f1, f2, f3, ff⟩ := refCell hR5
    have HK5 := Lib.hid hk5
    have HZ5 := Lib.hid hz5
    have HG5 := Lib.hid hg5
    have HB5 := Lib.hid hbes5
    have HO5 := Lib.hid hown5
    clear hk5 hz5 hg5 hbes5 hown5 hat5 hR5 c0 c1 c2 c3 cf d0
    go_wp2_with (at_builtin; go_loud (refine wpList_append_any rfl (.tmp 19) (.tmp 26) 45 rfl 40 i0 _ 3 32 Try.underlying45 hi hz0 hz1 hz2 rfl (by decide) g5 F cap5 (pkCells (s.ps.take F)) rfl HO5.out D (s.ps.length - (F + 1)) (lc - (F + 1)) (pkCells (s.ps.drop (F + 1))) rfl S2.out (S3.out _ (HK5.out g HGW.out)) S5.out ?e5 ?e6 (s.ps.length - 1) ?e7 ?e8))
    case e5 => simp only [maxLen]; omega
    case e6 => omega
    case e7 => omega
    case e8 =>
      intro g6 cap6 w6 hown6 hbes6 hat6
      have hz6 : w5.heap.size ≤ w6.heap.size := hbes6.1.2.2.2
      have hz5 := HZ5.out
      have hg5 := HG5.out
      have hk6 : ∀ q, q < w.heap.size → w6.heap[q]? = w.heap[q]? := fun q hq => (hbes6.2 q (by omega) (by omega)).trans (HK5.out q hq)
      have hR6 : w6.heap[R]? = some (.cells (refCells (some ⟨g, 0, none⟩) s.ps.length lc wa s.ws.length wc s.sent s.came) 56 (0, 0)) := (hk6 R HLT.out).trans HR.out
      have hb5 := HB5.out.1
      have hrw := ref_rowed (w := w) (w3 := w6) (s := s) (ps' := s.ps.eraseIdx F) (n' := s.ps.length - 1) HR.out HND.out HW.out HN.out.valid (by rw [List.length_eraseIdx, if_pos hF]) (by rw [List.eraseIdx_eq_take_drop_succ, pkCells_append]; exact hown6)
        ⟨hbes6.1.1.trans hb5.1, hbes6.1.2.1.trans hb5.2.1, hbes6.1.2.2.1.trans hb5.2.2.1, by omega, fun q hq _ => hk6 q hq, fun q hq => by simp at hq; subst hq; exact .inr (by omega)⟩ (by rw [List.length_eraseIdx, if_pos hF]; omega) hws hs hc
      obtain ⟨k0, k1, k2, k3, kf⟩ := refCell hR6
      have HRW := Lib.hid hrw
      clear hrw hown6 hbes6 hat6 hz6 hz5 hg5 hk6 hR6 hb5 f0 f1 f2 f3 ff hi hz0 hz1 hz2 hD
      go_wp2_with fail
      go_ret
      exact ⟨_, rfl, HRW.out.1, HRW.out.2⟩

end Go.Proofs.Ytjeiakfdjbnkaaa

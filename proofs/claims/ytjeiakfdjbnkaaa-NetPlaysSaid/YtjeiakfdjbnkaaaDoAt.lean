/-
  The network, its reference and an operation's box side by side in memory; each method under that relation.
-/
import Derived.Test.YtjeiakfdjbnkaaaPairs
import Derived.Test.YtjeiakfdjbnkaaaRefDouble
import Derived.Test.YtjeiakfdjbnkaaaNetIsCut
import Derived.WalkKit
import Derived.Below
import Derived.Lib.Hide
namespace Go.Proofs.Ytjeiakfdjbnkaaa
open Go.RowKit
set_option linter.unusedVariables false

/-- The network, its reference, and the box b0 of an operation; since the world W nothing else has changed. -/
structure DoAt (W : World) (f0 : List Nat) (b0 : Nat) (o : OpV) (B R : Nat) (w : World) (fn fr : List Nat) (s : NS) (r : RS) : Prop where
  side : Side w fn fr B R s r
  frame : Fr W w f0 (fn ++ fr)
  box : w.heap[b0]? = some (.cells #[.int .i64 o.k, .int .i64 o.a, .int .i64 o.b, .string o.s] 47 (0, 0))
  far : b0 ∉ fn ++ fr

theorem DoAt.lt {W w : World} {f0 fn fr : List Nat} {b0 B R : Nat} {o : OpV} {s : NS} {r : RS} (h : DoAt W f0 b0 o B R w fn fr s r) : b0 < w.heap.size :=
  (Array.getElem?_eq_some_iff.1 h.box).1

theorem DoAt.cells {W w : World} {f0 fn fr : List Nat} {b0 B R : Nat} {o : OpV} {s : NS} {r : RS} (h : DoAt W f0 b0 o B R w fn fr s r) :
    w.cell? ⟨b0, 0, none⟩ = some (.int .i64 o.k) ∧ w.cell? ⟨b0, 1, none⟩ = some (.int .i64 o.a) ∧ w.cell? ⟨b0, 2, none⟩ = some (.int .i64 o.b) ∧ w.cell? ⟨b0, 3, none⟩ = some (.string o.s) := by
  refine ⟨?_, ?_, ?_, ?_⟩ <;> rw [cell_of_row w b0 _ _ 47 (0, 0) h.box] <;> rfl

theorem DoAt.net {W w w' : World} {f0 fn fn' fr : List Nat} {b0 B R : Nat} {o : OpV} {s s' : NS} {r : RS} (h : DoAt W f0 b0 o B R w fn fr s r) (hn : NetAt w' fn' B s') (hf : Fr w w' fn fn') :
    DoAt W f0 b0 o B R w' fn' fr s' r := by
  have h1 := h.side.net hn hf
  have hlt := h.lt
  have hfar : b0 ∉ fn ∧ b0 ∉ fr := by simpa using h.far
  refine ⟨h1.1, h.frame.trans h1.2, (hf.block b0 hlt hfar.1).trans h.box, fun hm => ?_⟩
  rcases List.mem_append.1 hm with hm | hm
  · rcases hf.src _ hm with h2 | h2
    · exact hfar.1 h2
    · omega
  · exact hfar.2 hm

theorem DoAt.ref {W w w' : World} {f0 fn fr fr' : List Nat} {b0 B R : Nat} {o : OpV} {s : NS} {r r' : RS} (h : DoAt W f0 b0 o B R w fn fr s r) (hn : RefAt w' fr' R r') (hf : Fr w w' fr fr') :
    DoAt W f0 b0 o B R w' fn fr' s r' := by
  have h1 := h.side.ref hn hf
  have hlt := h.lt
  have hfar : b0 ∉ fn ∧ b0 ∉ fr := by simpa using h.far
  refine ⟨h1.1, h.frame.trans h1.2, (hf.block b0 hlt hfar.2).trans h.box, fun hm => ?_⟩
  rcases List.mem_append.1 hm with hm | hm
  · exact hfar.1 hm
  · rcases hf.src _ hm with h2 | h2
    · exact hfar.2 h2
    · omega

theorem DoAt.below {W w w' : World} {f0 fn fr : List Nat} {b0 B R : Nat} {o : OpV} {s : NS} {r : RS} (h : DoAt W f0 b0 o B R w fn fr s r) (hb : Below w.heap.size w w') :
    DoAt W f0 b0 o B R w' fn fr s r :=
  h.net (h.side.1.below hb) (Fr.of_below hb fn)

theorem DoAt.drew {W w : World} {f0 fn fr : List Nat} {b0 B R : Nat} {o : OpV} {s : NS} {r : RS} (h : DoAt W f0 b0 o B R w fn fr s r) : DoAt W f0 b0 o B R w.drew fn fr s r :=
  h.below (Below.refl _ w).drew

/-- At the start: the operation's box is new. -/
theorem DoAt.start {w : World} {fn fr : List Nat} {B R : Nat} {s : NS} {r : RS} (o : OpV) (h : Side w fn fr B R s r) :
    DoAt w (fn ++ fr) w.heap.size o B R (w.alloc (.cells #[.int .i64 o.k, .int .i64 o.a, .int .i64 o.b, .string o.s] 47)) fn fr s r := by
  have hb : Below w.heap.size w (w.alloc (.cells #[.int .i64 o.k, .int .i64 o.a, .int .i64 o.b, .string o.s] 47)) := (Below.refl _ w).alloc (Nat.le_refl _) _
  refine ⟨h.below hb, Fr.of_below hb _, heap_alloc_new w _, fun hm => ?_⟩
  rcases List.mem_append.1 hm with hm | hm
  · have := h.1.valid _ hm; omega
  · have := h.2.1.valid _ hm; omega

/-- What Send comes to, on the network and on the reference. -/
def SentN (s : NS) (p : Pk) (b : Bool) (s' : NS) : Prop := (b = true ∧ s' = ⟨s.ps ++ [p], s.cut, s.sent + 1, s.came⟩ ∧ s.ps.length < 256) ∨ (b = false ∧ s' = s ∧ 256 ≤ s.ps.length)
def SentR (r : RS) (p : Pk) (b : Bool) (r' : RS) : Prop := (b = true ∧ r' = ⟨r.ps ++ [p], r.ws, r.sent + 1, r.came⟩ ∧ r.ps.length < 256) ∨ (b = false ∧ r' = r ∧ 256 ≤ r.ps.length)

theorem send_do (W : World) (f0 : List Nat) (b0 : Nat) (o : OpV) (B R : Nat) (w : World) (fn fr : List Nat) (s : NS) (r : RS) (x y : Int) (t : ByteArray) (h : DoAt W f0 b0 o B R w fn fr s r) (hs : s.sent < 5000) :
    Calls Try.prog 21 #[.pointer (some ⟨B, 0, none⟩), .int .i64 x, .int .i64 y, .string t] w fun e w' => ∃ b f2 s2, e = .returned (.bool b) ∧ DoAt W f0 b0 o B R w' f2 fr s2 r ∧ Hid (SentN s ⟨x, y, t⟩ b s2) := by
  refine (send_any fn B s w ⟨x, y, t⟩ h.side.1 hs).mono ?_
  rintro e w' ⟨fq, s', hn, hf, ⟨rfl, he, hl⟩ | ⟨rfl, he, hl⟩⟩
  · exact ⟨_, fq, s', rfl, h.net hn hf, .inl ⟨rfl, he, hl⟩⟩
  · exact ⟨_, fq, s', rfl, h.net hn hf, .inr ⟨rfl, he, hl⟩⟩

theorem refsend_do (W : World) (f0 : List Nat) (b0 : Nat) (o : OpV) (B R : Nat) (w : World) (fn fr : List Nat) (s : NS) (r : RS) (x y : Int) (t : ByteArray) (h : DoAt W f0 b0 o B R w fn fr s r) (hs : r.sent < 5000) :
    Calls Try.prog 39 #[.pointer (some ⟨R, 0, none⟩), .agg #[.int .i64 x, .int .i64 y, .string t]] w fun e w' => ∃ b f2 r2, e = .returned (.bool b) ∧ DoAt W f0 b0 o B R w' fn f2 s r2 ∧ Hid (SentR r ⟨x, y, t⟩ b r2) := by
  refine (refsend_any fr R r w ⟨x, y, t⟩ h.side.2.1 hs).mono ?_
  rintro e w' ⟨fq, r', hn, hf, ⟨rfl, he, hl⟩ | ⟨rfl, he, hl⟩⟩
  · exact ⟨_, fq, r', rfl, h.ref hn hf, .inl ⟨rfl, he, hl⟩⟩
  · exact ⟨_, fq, r', rfl, h.ref hn hf, .inr ⟨rfl, he, hl⟩⟩

/-- What Lose comes to. -/
def LostN (s : NS) (i : Int) (b : Bool) (s' : NS) : Prop := (b = false ∧ s' = s ∧ (i < 0 ∨ (s.ps.length : Int) ≤ i)) ∨ (∃ j : Nat, i = j ∧ j < s.ps.length ∧ b = true ∧ s' = ⟨s.ps.eraseIdx j, s.cut, s.sent, s.came⟩)
def LostR (r : RS) (i : Int) (b : Bool) (r' : RS) : Prop := (b = false ∧ r' = r ∧ (i < 0 ∨ (r.ps.length : Int) ≤ i)) ∨ (∃ j : Nat, i = j ∧ j < r.ps.length ∧ b = true ∧ r' = ⟨r.ps.eraseIdx j, r.ws, r.sent, r.came⟩)

theorem lose_do (W : World) (f0 : List Nat) (b0 : Nat) (o : OpV) (B R : Nat) (w : World) (fn fr : List Nat) (s : NS) (r : RS) (i : Int) (h : DoAt W f0 b0 o B R w fn fr s r) :
    Calls Try.prog 25 #[.pointer (some ⟨B, 0, none⟩), .int .i64 i] w fun e w' => ∃ b f2 s2, e = .returned (.bool b) ∧ DoAt W f0 b0 o B R w' f2 fr s2 r ∧ Hid (LostN s i b s2) := by
  refine (lose_any fn B s w i h.side.1).mono ?_
  rintro e w' ⟨fq, s', hn, hf, ⟨rfl, he, hl⟩ | ⟨j, he, hl, rfl, hs⟩⟩
  · exact ⟨_, fq, s', rfl, h.net hn hf, .inl ⟨rfl, he, hl⟩⟩
  · exact ⟨_, fq, s', rfl, h.net hn hf, .inr ⟨j, he, hl, rfl, hs⟩⟩

theorem reflose_do (W : World) (f0 : List Nat) (b0 : Nat) (o : OpV) (B R : Nat) (w : World) (fn fr : List Nat) (s : NS) (r : RS) (i : Int) (h : DoAt W f0 b0 o B R w fn fr s r) :
    Calls Try.prog 41 #[.pointer (some ⟨R, 0, none⟩), .int .i64 i] w fun e w' => ∃ b f2 r2, e = .returned (.bool b) ∧ DoAt W f0 b0 o B R w' fn f2 s r2 ∧ Hid (LostR r i b r2) := by
  refine (reflose_any fr R r w i h.side.2.1).mono ?_
  rintro e w' ⟨fq, r', hn, hf, ⟨rfl, he, hl⟩ | ⟨j, he, hl, rfl, hs⟩⟩
  · exact ⟨_, fq, r', rfl, h.ref hn hf, .inl ⟨rfl, he, hl⟩⟩
  · exact ⟨_, fq, r', rfl, h.ref hn hf, .inr ⟨j, he, hl, rfl, hs⟩⟩

/-- What Double comes to. -/
def TwiceN (s : NS) (i : Int) (b : Bool) (s' : NS) : Prop := (b = false ∧ s' = s ∧ ((i < 0 ∨ (s.ps.length : Int) ≤ i) ∨ 256 ≤ s.ps.length)) ∨
  (∃ j : Nat, i = j ∧ j < s.ps.length ∧ s.ps.length < 256 ∧ b = true ∧ s' = ⟨s.ps ++ [s.ps.getD j Pk.zero], s.cut, s.sent, s.came⟩)
def TwiceR (s : RS) (i : Int) (b : Bool) (s' : RS) : Prop := (b = false ∧ s' = s ∧ ((i < 0 ∨ (s.ps.length : Int) ≤ i) ∨ 256 ≤ s.ps.length)) ∨
  (∃ j : Nat, i = j ∧ j < s.ps.length ∧ s.ps.length < 256 ∧ b = true ∧ s' = ⟨s.ps ++ [s.ps.getD j Pk.zero], s.ws, s.sent, s.came⟩)

theorem double_do (W : World) (f0 : List Nat) (b0 : Nat) (o : OpV) (B R : Nat) (w : World) (fn fr : List Nat) (s : NS) (r : RS) (i : Int) (h : DoAt W f0 b0 o B R w fn fr s r) :
    Calls Try.prog 22 #[.pointer (some ⟨B, 0, none⟩), .int .i64 i] w fun e w' => ∃ b f2 s2, e = .returned (.bool b) ∧ DoAt W f0 b0 o B R w' f2 fr s2 r ∧ Hid (TwiceN s i b s2) := by
  refine (double_any fn B s w i h.side.1).mono ?_
  rintro e w' ⟨fq, s', hn, hf, ⟨rfl, he, hl⟩ | ⟨j, he, hl, hr, rfl, hs⟩⟩
  · exact ⟨_, fq, s', rfl, h.net hn hf, .inl ⟨rfl, he, hl⟩⟩
  · exact ⟨_, fq, s', rfl, h.net hn hf, .inr ⟨j, he, hl, hr, rfl, hs⟩⟩

theorem refdouble_do (W : World) (f0 : List Nat) (b0 : Nat) (o : OpV) (B R : Nat) (w : World) (fn fr : List Nat) (s : NS) (r : RS) (i : Int) (h : DoAt W f0 b0 o B R w fn fr s r) :
    Calls Try.prog 42 #[.pointer (some ⟨R, 0, none⟩), .int .i64 i] w fun e w' => ∃ b f2 r2, e = .returned (.bool b) ∧ DoAt W f0 b0 o B R w' fn f2 s r2 ∧ Hid (TwiceR r i b r2) := by
  rcases in_out i r.ps.length with hi | ⟨j, rfl, hj⟩
  · refine (refdouble_no fr R r w i h.side.2.1 hi).mono ?_
    rintro e w' ⟨rfl, rfl⟩
    exact ⟨_, fr, r, rfl, h, .inl ⟨rfl, rfl, .inl hi⟩⟩
  · by_cases hf : r.ps.length < 256
    · refine (refdouble_yes fr R r w j h.side.2.1 hj hf).mono ?_
      rintro e w' ⟨fq, rfl, h1, h2⟩
      exact ⟨_, fq, _, rfl, h.ref h1 h2, .inr ⟨j, rfl, hj, hf, rfl, rfl⟩⟩
    · refine (refdouble_full fr R r w j h.side.2.1 hj (by omega)).mono ?_
      rintro e w' ⟨rfl, rfl⟩
      exact ⟨_, fr, r, rfl, h, .inl ⟨rfl, rfl, .inr (by omega)⟩⟩

/-- What a pair of calls comes to: the same answer, and alike. -/
theorem sent_like {s s' : NS} {r r' : RS} {p : Pk} {b c : Bool} (hl : Like s r) (h1 : SentN s p b s') (h2 : SentR r p c r') : b = c ∧ Like s' r' ∧ s'.sent ≤ s.sent + 1 ∧ s'.came ≤ s.came + 1 ∧ r'.ws.length ≤ r.ws.length + 1 := by
  obtain ⟨e1, e2, e3, e4, e5⟩ := hl
  have hlen : r.ps.length = s.ps.length := by rw [e1]
  rcases h1 with ⟨rfl, rfl, h1⟩ | ⟨rfl, rfl, h1⟩ <;> rcases h2 with ⟨rfl, rfl, h2⟩ | ⟨rfl, rfl, h2⟩
  · exact ⟨rfl, ⟨by simp [e1], by simp [e2], e3, e4, e5⟩, by simp, by simp, by simp⟩
  · omega
  · omega
  · exact ⟨rfl, ⟨e1, e2, e3, e4, e5⟩, by omega, by omega, by omega⟩

theorem lost_like {s s' : NS} {r r' : RS} {i : Int} {b c : Bool} (hl : Like s r) (h1 : LostN s i b s') (h2 : LostR r i c r') : b = c ∧ Like s' r' ∧ s'.sent ≤ s.sent + 1 ∧ s'.came ≤ s.came + 1 ∧ r'.ws.length ≤ r.ws.length + 1 := by
  obtain ⟨e1, e2, e3, e4, e5⟩ := hl
  have hlen : r.ps.length = s.ps.length := by rw [e1]
  rcases h1 with ⟨rfl, rfl, h1⟩ | ⟨j, rfl, h1, rfl, rfl⟩ <;> rcases h2 with ⟨rfl, rfl, h2⟩ | ⟨j', h3, h2, rfl, rfl⟩
  · exact ⟨rfl, ⟨e1, e2, e3, e4, e5⟩, by omega, by omega, by omega⟩
  · omega
  · omega
  · obtain rfl : j = j' := by omega
    exact ⟨rfl, ⟨by simp [e1], e2, e3, e4, e5⟩, by simp, by simp, by simp⟩

theorem twice_like {s s' : NS} {r r' : RS} {i : Int} {b c : Bool} (hl : Like s r) (h1 : TwiceN s i b s') (h2 : TwiceR r i c r') : b = c ∧ Like s' r' ∧ s'.sent ≤ s.sent + 1 ∧ s'.came ≤ s.came + 1 ∧ r'.ws.length ≤ r.ws.length + 1 := by
  obtain ⟨e1, e2, e3, e4, e5⟩ := hl
  have hlen : r.ps.length = s.ps.length := by rw [e1]
  rcases h1 with ⟨rfl, rfl, h1⟩ | ⟨j, rfl, h1, h1', rfl, rfl⟩ <;> rcases h2 with ⟨rfl, rfl, h2⟩ | ⟨j', h3, h2, h2', rfl, rfl⟩
  · exact ⟨rfl, ⟨e1, e2, e3, e4, e5⟩, by omega, by omega, by omega⟩
  · omega
  · omega
  · obtain rfl : j = j' := by omega
    exact ⟨rfl, ⟨by simp [e1], e2, e3, e4, e5⟩, by simp, by simp, by simp⟩

/-- The end of a pair of calls. -/
theorem DoAt.both {w w' : World} {fn fr fn' fr' : List Nat} {b0 B R : Nat} {o : OpV} {s s' : NS} {r r' : RS} (h : DoAt w (fn ++ fr) b0 o B R w' fn' fr' s' r') (hl : Like s' r' ∧ s'.sent ≤ s.sent + 1 ∧ s'.came ≤ s.came + 1 ∧ r'.ws.length ≤ r.ws.length + 1) :
    Both fn fr B R s r w w' :=
  ⟨fn', fr', s', r', h.side, hl.1, h.frame, hl.2.1, hl.2.2.1, hl.2.2.2⟩

end Go.Proofs.Ytjeiakfdjbnkaaa

/-
  The law's does at any operation: true, and alike behind it.
-/
import Derived.Test.YtjeiakfdjbnkaaaDoesLook
import Derived.Test.YtjeiakfdjbnkaaaDoesCut
namespace Go.Proofs.Ytjeiakfdjbnkaaa
open Go.RowKit
set_option linter.unusedVariables false

theorem does_any (fn fr : List Nat) (B R : Nat) (s : NS) (r : RS) (w : World) (o : OpV) (h : Side w fn fr B R s r) (hl : Like s r) (hs : s.sent < 5000) (hc : s.came < 5000) (hw : r.ws.length < 5000) :
    Calls Try.prog 32 #[.pointer (some ⟨B, 0, none⟩), .pointer (some ⟨R, 0, none⟩), .agg #[.int .i64 o.k, .int .i64 o.a, .int .i64 o.b, .string o.s]] w fun e w' => e = .returned (.bool true) ∧ Both fn fr B R s r w w' := by
  obtain ⟨k, x, y, t⟩ := o
  by_cases h0 : k = 0
  · subst h0; exact does_send fn fr B R s r w x y t h hl hs
  by_cases h1 : k = 1
  · subst h1; exact does_take fn fr B R s r w x y t h hl hc
  by_cases h2 : k = 2
  · subst h2; exact does_lose fn fr B R s r w x y t h hl hs
  by_cases h3 : k = 3
  · subst h3; exact does_double fn fr B R s r w x y t h hl hs
  by_cases h4 : k = 4
  · subst h4; exact does_cut fn fr B R s r w x y t h hl hw
  by_cases h5 : k = 5
  · subst h5; exact does_join fn fr B R s r w x y t h hl hw
  by_cases h6 : k = 6
  · subst h6; exact does_heal fn fr B R s r w x y t h hl hw
  by_cases h7 : k = 7
  · subst h7
    rcases in_out x s.ps.length with hi | ⟨j, rfl, hj⟩
    · exact does_look_no fn fr B R s r w x y t h hl hi
    · exact does_look_yes fn fr B R s r w j y t h hl hj
  exact does_other fn fr B R s r w k h0 h1 h2 h3 h4 h5 h6 h7 x y t h hl hw

/-- What has gone on in the lists. -/
def Went (s : NS) (r : RS) (ps : List Pk) (cut ws : List (Int × Int)) (sent came : Nat) : Prop :=
  Same cut ws ∧ cut.Nodup ∧ sent ≤ s.sent + 1 ∧ came ≤ s.came + 1 ∧ ws.length ≤ r.ws.length + 1

theorem does_do (W : World) (f0 : List Nat) (b0 : Nat) (o : OpV) (B R : Nat) (w : World) (fn fr : List Nat) (s : NS) (r : RS) (h : DoAt W f0 b0 o B R w fn fr s r) (hl : Like s r) (hs : s.sent < 5000) (hc : s.came < 5000) (hw : r.ws.length < 5000) :
    Calls Try.prog 32 #[.pointer (some ⟨B, 0, none⟩), .pointer (some ⟨R, 0, none⟩), .agg #[.int .i64 o.k, .int .i64 o.a, .int .i64 o.b, .string o.s]] w fun e w' => e = .returned (.bool true) ∧
      ∃ f2 f3 ps cut ws sent came, DoAt W f0 b0 o B R w' f2 f3 ⟨ps, cut, sent, came⟩ ⟨ps, ws, sent, came⟩ ∧ Hid (Went s r ps cut ws sent came) := by
  refine (does_any fn fr B R s r w o h.side hl hs hc hw).mono ?_
  rintro e w' ⟨rfl, fn', fr', ⟨ps, cut, sent, came⟩, ⟨ps', ws, sent', came'⟩, hsd, ⟨e1, e2, e3, e4, e5⟩, hf, b1, b2, b3⟩
  simp only at e1 e2 e3 e4 e5 b1 b2 b3
  subst e1 e2 e3
  refine ⟨rfl, fn', fr', ps', cut, ws, sent', came', ⟨hsd, h.frame.trans hf, (hf.block b0 h.lt h.far).trans h.box, fun hm => ?_⟩, e4, e5, b1, b2, b3⟩
  rcases hf.src _ hm with h2 | h2
  · exact h.far h2
  · have := h.lt; omega

theorem iscut_do (W : World) (f0 : List Nat) (b0 : Nat) (o : OpV) (B R : Nat) (w : World) (fn fr : List Nat) (s : NS) (r : RS) (x y : Int) (h : DoAt W f0 b0 o B R w fn fr s r) :
    Calls Try.prog 31 #[.pointer (some ⟨B, 0, none⟩), .int .i64 x, .int .i64 y] w fun e w' => e = .returned (.bool (hasWay s.cut (btw x y))) ∧ DoAt W f0 b0 o B R w' fn fr s r := by
  refine (iscut_calls fn B s w x y h.side.1).mono ?_
  rintro e w' ⟨rfl, hb⟩
  exact ⟨rfl, h.below hb⟩

theorem refcut_do (W : World) (f0 : List Nat) (b0 : Nat) (o : OpV) (B R : Nat) (w : World) (fn fr : List Nat) (s : NS) (r : RS) (x y : Int) (h : DoAt W f0 b0 o B R w fn fr s r) (hs : Same s.cut r.ws) :
    Calls Try.prog 34 #[.pointer (some ⟨R, 0, none⟩), .int .i64 x, .int .i64 y] w fun e w' => e = .returned (.bool (hasWay s.cut (btw x y))) ∧ DoAt W f0 b0 o B R w' fn fr s r := by
  refine (refcut_calls fr R r w x y h.side.2.1).mono ?_
  rintro e w' ⟨rfl, hb⟩
  exact ⟨by rw [hs x y], h.below hb⟩

theorem len_do (W : World) (f0 : List Nat) (b0 : Nat) (o : OpV) (B R : Nat) (w : World) (fn fr : List Nat) (s : NS) (r : RS) (h : DoAt W f0 b0 o B R w fn fr s r) :
    Calls Try.prog 23 #[.pointer (some ⟨B, 0, none⟩)] w fun e w' => e = .returned (.int .i64 s.ps.length) ∧ w = w' := len_calls fn B s w h.side.1
theorem sent_do (W : World) (f0 : List Nat) (b0 : Nat) (o : OpV) (B R : Nat) (w : World) (fn fr : List Nat) (s : NS) (r : RS) (h : DoAt W f0 b0 o B R w fn fr s r) :
    Calls Try.prog 24 #[.pointer (some ⟨B, 0, none⟩)] w fun e w' => e = .returned (.int .i64 s.sent) ∧ w = w' := sent_calls fn B s w h.side.1
theorem came_do (W : World) (f0 : List Nat) (b0 : Nat) (o : OpV) (B R : Nat) (w : World) (fn fr : List Nat) (s : NS) (r : RS) (h : DoAt W f0 b0 o B R w fn fr s r) :
    Calls Try.prog 33 #[.pointer (some ⟨B, 0, none⟩)] w fun e w' => e = .returned (.int .i64 s.came) ∧ w = w' := came_calls fn B s w h.side.1

/-- The loop's relation: behind i operations. -/
def PlayRel (W : World) (B R i : Nat) (w : World) : Prop :=
  ∃ fn fr s r, Side w fn fr B R s r ∧ Like s r ∧ Below W.heap.size W w ∧ (∀ k ∈ fn ++ fr, W.heap.size ≤ k) ∧ s.sent ≤ i ∧ s.came ≤ i ∧ r.ws.length ≤ i

/-- The round's end. -/
theorem PlayRel.next {W w w' : World} {B R i b0 : Nat} {fn fr f2 f3 : List Nat} {s : NS} {r : RS} {o : OpV} {ps : List Pk} {cut ws : List (Int × Int)} {sent came : Nat} (hb : Below W.heap.size W w) (hbase : ∀ k ∈ fn ++ fr, W.heap.size ≤ k)
    (hs : s.sent ≤ i) (hc : s.came ≤ i) (hw : r.ws.length ≤ i) (h : DoAt w (fn ++ fr) b0 o B R w' f2 f3 ⟨ps, cut, sent, came⟩ ⟨ps, ws, sent, came⟩) (hwent : Went s r ps cut ws sent came) : PlayRel W B R (i + 1) w' := by
  obtain ⟨h1, h2, h3, h4, h5⟩ := hwent
  refine ⟨f2, f3, _, _, h.side, ⟨rfl, rfl, rfl, h1, h2⟩, hb.trans (h.frame.below hb.size hbase), h.frame.base hb.size hbase, ?_, ?_, ?_⟩
  · simp only; omega
  · simp only; omega
  · simp only; omega

/-- A reference's network just made. -/
theorem ref_new (w : World) : RefAt (w.alloc (.cells (refCells none 0 0 none 0 0 0 0) 56)) [w.heap.size] w.heap.size ⟨[], [], 0, 0⟩ :=
  ⟨none, 0, none, 0, rfl, by simp, heap_alloc_new w _, World.ownsRow_nil _ _ _ _, World.ownsRow_nil _ _ _ _, by simp, by simp, by simp, by simp⟩

/-- At the start. -/
theorem PlayRel.start {W w w1 : World} {B : Nat} {fp : List Nat} (hb : Below W.heap.size W w) (hn : NetAt w1 fp B ⟨[], [], 0, 0⟩) (hf : Fr w w1 [] fp) :
    PlayRel W B w1.heap.size 0 (w1.alloc (.cells (refCells none 0 0 none 0 0 0 0) 56)) := by
  have hal : Below w1.heap.size w1 (w1.alloc (.cells (refCells none 0 0 none 0 0 0 0) 56)) := (Below.refl _ w1).alloc (Nat.le_refl _) _
  have hs1 := hb.size
  have hs2 := hf.size
  refine ⟨fp, [w1.heap.size], _, _, ⟨hn.below hal, ref_new w1, fun k hk hm => ?_⟩, ⟨rfl, rfl, rfl, Same.none, List.nodup_nil⟩, (hb.trans (hf.below hs1 (by simp))).trans (hal.mono (by omega)), fun k hk => ?_, by simp, by simp, by simp⟩
  · have h1 := hn.valid k hk
    simp at hm; omega
  · rcases List.mem_append.1 hk with hk | hk
    · rcases hf.src k hk with h | h
      · simp at h
      · omega
    · simp at hk; omega

end Go.Proofs.Ytjeiakfdjbnkaaa

/-
  The network in memory: packets in a row of the network's own, cut ways in a map of its own, two counts; what the operations on such a map do.
-/
import Derived.Test.YtjeiakfdjbnkaaaRows
import Derived.WalkKit
import Derived.WalkSpells
import Derived.WalkLawsBesides
import Derived.Below
import Derived.Lib.Hide
import Derived.Deep.AppendLies
namespace Go.Proofs.Ytjeiakfdjbnkaaa
open Go.RowKit
set_option linter.unusedVariables false

/-- A way's value. -/
def wayV (p : Int × Int) : Value := .agg #[.int .i64 p.1, .int .i64 p.2]

/-- Block r is a map that holds just these ways. -/
def WayMap (w : World) (r : Nat) (l : List (Int × Int)) : Prop :=
  ∃ es c, w.heap[r]? = some (.map es c) ∧ es.toList.map (fun e => e.key) = l.map wayV ∧ ∀ e ∈ es.toList, e.val = .bool true

theorem fields68 : (Try.prog.fieldsOf 68).toList = [{ name := "a", type := 3, offset := 0, embedded := false, tag := "", pkgPath := "exchequer/net", byteOffset := 0 }, { name := "b", type := 3, offset := 1, embedded := false, tag := "", pkgPath := "exchequer/net", byteOffset := 8 }] := by kernel_rfl

theorem equal_way (w : World) (p q : Int × Int) : (Op.equal 68 (wayV p) (wayV q)).run Try.prog w = .ok (p.1 == q.1 && p.2 == q.2) w := by
  have h1 : Try.prog.underlying 68 = some (.struct (Try.prog.fieldsOf 68)) := by kernel_rfl
  have h2 : Try.prog.stoodInHeld 68 = false := by kernel_rfl
  unfold wayV Op.equal Op.maxDepth
  have := run_equalIn_struct (P := Try.prog) w 9999 68 #[.int .i64 p.1, .int .i64 p.2] #[.int .i64 q.1, .int .i64 q.2] h1 h2
  rw [this, fields68]
  clear this h1 h2
  have h3 : Try.prog.plainKey 3 = true := by kernel_rfl
  have e1 : ∀ (a b : Int), (Op.equalIn 9999 3 (.int .i64 a) (.int .i64 b)).run Try.prog w = .ok (a == b) w := fun a b => run_equalIn_int (P := Try.prog) w 9998 3 .i64 .i64 a b Try.underlying3
  have e2 : ∀ (a b : Int), (part 3 #[.int .i64 a, .int .i64 b] 0).run Try.prog w = .ok (.int .i64 a) w := fun a b => run_part_plain w h3 rfl
  have e3 : ∀ (a b : Int), (part 3 #[.int .i64 a, .int .i64 b] 1).run Try.prog w = .ok (.int .i64 b) w := fun a b => run_part_plain w h3 rfl
  simp only [Op.eqFields, Sem.run_bind, Sem.run_ite, e1, e2, e3, Result.andThen_ok, Sem.run_pure]
  cases h : p.1 == q.1 <;> cases h' : p.2 == q.2 <;> simp

theorem check_way (w : World) (b : Bool) (p : Int × Int) : (Instr.checkKey b 10000 68 (wayV p)).run Try.prog w = .ok () w := by
  unfold wayV
  kernel_rfl

theorem set_map {w : World} {r : Nat} {es : Array MapEntry} {c : Nat} (o : Obj) (hb : w.heap[r]? = some (.map es c)) : (setObj r o).run Try.prog w = .ok () { w with heap := w.heap.setIfInBounds r o } := by
  simp [setObj, Sem.run, hb]

/-- Where a way stands in a list. -/
def wayAt (p : Int × Int) (l : List (Int × Int)) : Option Nat := l.findIdx? (fun q => p.1 == q.1 && p.2 == q.2)

theorem find_asking (w : World) (p : Int × Int) (es : List MapEntry) (l : List (Int × Int)) (i : Nat) (hk : es.map (fun e => e.key) = l.map wayV) (hv : ∀ e ∈ es, e.val = .bool true) :
    (Instr.findAsking 68 (wayV p) es i).run Try.prog w = .ok ((wayAt p l).map fun k => (i + k, .bool true)) w := by
  induction es generalizing l i with
  | nil =>
    have : l = [] := by cases l with | nil => rfl | cons => simp at hk
    subst this; rfl
  | cons e es ih =>
    cases l with
    | nil => simp at hk
    | cons q l =>
      simp only [List.map_cons, List.cons.injEq] at hk
      unfold Instr.findAsking
      rw [Sem.run_bind, hk.1, equal_way, Result.andThen_ok]
      have hv' := hv e (by simp)
      unfold wayAt
      rw [List.findIdx?_cons]
      cases h : (p.1 == q.1 && p.2 == q.2) with
      | true => simp [hv']
      | false =>
        simp only [Bool.false_eq_true, if_false]
        rw [ih l (i + 1) hk.2 (fun e he => hv e (by simp [he]))]
        unfold wayAt
        cases (l.findIdx? fun q => p.1 == q.1 && p.2 == q.2) with
        | none => rfl
        | some k => simp; omega

theorem find_way (w : World) (p : Int × Int) (es : List MapEntry) (l : List (Int × Int)) (hk : es.map (fun e => e.key) = l.map wayV) (hv : ∀ e ∈ es, e.val = .bool true) :
    (Instr.findKey 68 (wayV p) es).run Try.prog w = .ok ((wayAt p l).map fun k => (k, .bool true)) w := by
  unfold Instr.findKey
  rw [Sem.run_bind, run_underlying (show Try.prog.underlying 68 = some (.struct (Try.prog.fieldsOf 68)) by kernel_rfl), Result.andThen_ok]
  cases es with
  | nil =>
    have : l = [] := by cases l with | nil => rfl | cons => simp at hk
    subst this; rfl
  | cons e es =>
    have : Instr.findNow (.struct (Try.prog.fieldsOf 68)) (wayV p) (e :: es) 0 = none := by
      unfold Instr.findNow wayV Instr.sameNow
      rfl
    rw [this]
    have := find_asking w p (e :: es) l 0 hk hv
    simp only [Nat.zero_add] at this
    exact this

theorem wayAt_isSome (p : Int × Int) (l : List (Int × Int)) : (wayAt p l).isSome = l.contains p := by
  unfold wayAt
  rw [List.findIdx?_isSome]
  induction l with
  | nil => rfl
  | cons q l ih =>
    rw [List.any_cons, ih, List.contains_cons]
    congr 1

theorem run_lookup_way (w : World) (r : Nat) (l : List (Int × Int)) (h : WayMap w r l) (p : Int × Int) :
    (Instr.lookup 63 (.map (some r)) (wayV p) false).run Try.prog w = .ok (.bool (l.contains p)) w := by
  obtain ⟨es, c, hh, hk, hv⟩ := h
  unfold Instr.lookup
  have hz : (zeroValue 4).run Try.prog w = .ok (.bool false) w := by kernel_rfl
  have hf := find_way w p es.toList l hk hv
  simp only [Sem.run_bind, run_underlying (show Try.prog.underlying 63 = some (.map 68 4) by kernel_rfl), Result.andThen_ok]
  have hg : (getObj r).run Try.prog w = .ok (.map es c) w := by simp [getObj, Sem.run, hh]
  simp only [hg, Result.andThen_ok, Sem.run_bind, Sem.run_pure, check_way, hf]
  rw [← wayAt_isSome]
  cases wayAt p l with
  | none => simp [hz]
  | some k => simp

theorem wayAt_none {p : Int × Int} {l : List (Int × Int)} (h : wayAt p l = none) : l.contains p = false := by
  rw [← wayAt_isSome, h]; rfl

theorem wayAt_some {p : Int × Int} {l : List (Int × Int)} {k : Nat} (h : wayAt p l = some k) : l.contains p = true ∧ ∃ hk : k < l.length, l[k] = p := by
  refine ⟨by rw [← wayAt_isSome, h]; rfl, ?_⟩
  unfold wayAt at h
  rw [List.findIdx?_eq_some_iff_getElem] at h
  obtain ⟨hk, h1, _⟩ := h
  refine ⟨hk, ?_⟩
  simp only [Bool.and_eq_true, beq_iff_eq] at h1
  exact Prod.ext h1.1.symm h1.2.symm

theorem sameBits_way (p : Int × Int) : Instr.sameBits 10000 (wayV p) (wayV p) = true := by
  unfold wayV
  rw [show (10000 : Nat) = 9999 + 1 by rfl]
  simp [Instr.sameBits]

/-- Behind a cut: the ways with p. -/
def cutWay (l : List (Int × Int)) (p : Int × Int) : List (Int × Int) := if l.contains p then l else l ++ [p]

theorem run_update_way (w : World) (r : Nat) (l : List (Int × Int)) (h : WayMap w r l) (p : Int × Int) :
    ∃ w', (Instr.mapUpdate 63 (.map (some r)) (wayV p) (.bool true)).run Try.prog w = .ok () w' ∧ WayMap w' r (cutWay l p) ∧ ∃ o, w' = { w with heap := w.heap.setIfInBounds r o } := by
  obtain ⟨es, c, hh, hk, hv⟩ := h
  have hf := find_way w p es.toList l hk hv
  have hg : (getObj r).run Try.prog w = .ok (.map es c) w := by simp [getObj, Sem.run, hh]
  have hlt : r < w.heap.size := (Array.getElem?_eq_some_iff.1 hh).1
  cases ha : wayAt p l with
  | none =>
    rw [ha] at hf
    refine ⟨{ w with heap := w.heap.setIfInBounds r (.map (es.push { key := wayV p, val := .bool true, born := c }) (c + 1)) }, ?_, ?_, _, rfl⟩
    · unfold Instr.mapUpdate
      simp only [Sem.run_bind, run_underlying (show Try.prog.underlying 63 = some (.map 68 4) by kernel_rfl), Result.andThen_ok, hg, check_way, hf, Option.map_none]
      exact set_map _ hh
    · refine ⟨es.push { key := wayV p, val := .bool true, born := c }, c + 1, by simp [hlt], ?_, ?_⟩
      · rw [cutWay, if_neg (by rw [wayAt_none ha]; simp)]
        simp [hk]
      · intro e he
        simp at he
        rcases he with he | rfl
        · exact hv e (by simpa using he)
        · rfl
  | some k =>
    rw [ha] at hf
    obtain ⟨hc, hkl, hkp⟩ := wayAt_some ha
    have hel : es.toList.length = l.length := by have := congrArg List.length hk; simpa using this
    have hke : ((es[k]?).map (·.key)).getD (wayV p) = wayV p := by
      have h1 := congrArg (fun l => l[k]?) hk
      simp only [List.getElem?_map] at h1
      rw [List.getElem?_eq_getElem hkl, hkp] at h1
      rw [Array.getElem?_toList] at h1
      rw [h1]; rfl
    refine ⟨{ w with heap := w.heap.setIfInBounds r (.map (es.modify k fun e => { e with key := wayV p, val := .bool true }) c) }, ?_, ?_, _, rfl⟩
    · unfold Instr.mapUpdate
      simp only [Sem.run_bind, run_underlying (show Try.prog.underlying 63 = some (.map 68 4) by kernel_rfl), Result.andThen_ok, hg, check_way, hf, Option.map_some, hke]
      unfold Instr.keyThatStays
      rw [if_pos (sameBits_way p), Sem.run_pure, Result.andThen_ok]
      exact set_map _ hh
    · refine ⟨es.modify k fun e => { e with key := wayV p, val := .bool true }, c, by simp [hlt], ?_, ?_⟩
      · rw [cutWay, if_pos hc, Array.toList_modify, ← hk]
        apply List.ext_getElem?
        intro j
        rw [List.getElem?_map, List.getElem?_map, List.getElem?_modify]
        by_cases e : k = j
        · subst e
          have h1 := congrArg (fun l => l[k]?) hk
          simp only [List.getElem?_map] at h1
          rw [List.getElem?_eq_getElem hkl, hkp] at h1
          cases hx : es.toList[k]? with
          | none => rfl
          | some x => rw [hx] at h1; simp at h1; simp [h1]
        · cases es.toList[j]? with
          | none => rfl
          | some x => simp [e]
      · intro e he
        rw [Array.toList_modify] at he
        obtain ⟨j, hj, rfl⟩ := List.getElem_of_mem he
        rw [List.getElem_modify]
        split
        · rfl
        · exact hv _ (List.getElem_mem _)

/-- Behind a join: the ways without p. -/
def joinWay (l : List (Int × Int)) (p : Int × Int) : List (Int × Int) :=
  match wayAt p l with
  | none => l
  | some k => l.eraseIdx k

theorem toList_erase {α : Type} (es : Array α) (k : Nat) : (es.eraseIdxIfInBounds k).toList = es.toList.eraseIdx k := by
  rw [Array.eraseIdxIfInBounds_eq]
  split
  · simp
  · rename_i h
    rw [List.eraseIdx_of_length_le]
    simpa using h

theorem map_erase {α β : Type} (f : α → β) (l : List α) (k : Nat) : (l.eraseIdx k).map f = (l.map f).eraseIdx k := by
  simp [List.eraseIdx_eq_take_drop_succ]

theorem run_delete_way (w : World) (r : Nat) (l : List (Int × Int)) (h : WayMap w r l) (p : Int × Int) (ty : TypeId) :
    ∃ w', (Builtin.delete_ #[63, 68] ty #[.map (some r), wayV p]).run Try.prog w = .ok (.tuple #[]) w' ∧ WayMap w' r (joinWay l p) ∧ ∃ o, w' = { w with heap := w.heap.setIfInBounds r o } := by
  obtain ⟨es, c, hh, hk, hv⟩ := h
  have hf := find_way w p es.toList l hk hv
  have hg : (getObj r).run Try.prog w = .ok (.map es c) w := by simp [getObj, Sem.run, hh]
  have hlt : r < w.heap.size := (Array.getElem?_eq_some_iff.1 hh).1
  have hset : ∀ (es' : Array MapEntry), (setObj r (.map es' c)).run Try.prog w = .ok () { w with heap := w.heap.setIfInBounds r (.map es' c) } := fun _ => set_map _ hh
  cases ha : wayAt p l with
  | none =>
    rw [ha] at hf
    refine ⟨{ w with heap := w.heap.setIfInBounds r (.map es c) }, ?_, ⟨es, c, by simp [hlt], by rw [joinWay, ha]; exact hk, hv⟩, _, rfl⟩
    unfold Builtin.delete_
    simp [run_underlying (show Try.prog.underlying 63 = some (.map 68 4) by kernel_rfl), hg, check_way, hf, hset]
  | some k =>
    rw [ha] at hf
    refine ⟨{ w with heap := w.heap.setIfInBounds r (.map (es.eraseIdxIfInBounds k) c) }, ?_, ⟨es.eraseIdxIfInBounds k, c, by simp [hlt], ?_, ?_⟩, _, rfl⟩
    · unfold Builtin.delete_
      simp [run_underlying (show Try.prog.underlying 63 = some (.map 68 4) by kernel_rfl), hg, check_way, hf, hset]
    · rw [joinWay, ha, toList_erase]
      simp only
      rw [map_erase, hk, ← map_erase]
    · intro e he
      rw [toList_erase] at he
      exact hv e (List.mem_of_mem_eraseIdx he)

theorem run_clear_way (w : World) (r : Nat) (l : List (Int × Int)) (h : WayMap w r l) (ty : TypeId) :
    ∃ w', (Builtin.clear_ #[63] ty #[.map (some r)]).run Try.prog w = .ok (.tuple #[]) w' ∧ WayMap w' r [] ∧ ∃ o, w' = { w with heap := w.heap.setIfInBounds r o } := by
  obtain ⟨es, c, hh, hk, hv⟩ := h
  have hg : (getObj r).run Try.prog w = .ok (.map es c) w := by simp [getObj, Sem.run, hh]
  have hlt : r < w.heap.size := (Array.getElem?_eq_some_iff.1 hh).1
  have hset : (setObj r (.map #[] c)).run Try.prog w = .ok () { w with heap := w.heap.setIfInBounds r (.map #[] c) } := set_map _ hh
  refine ⟨{ w with heap := w.heap.setIfInBounds r (.map #[] c) }, ?_, ⟨#[], c, by simp [hlt], rfl, by simp⟩, _, rfl⟩
  unfold Builtin.clear_
  simp [run_underlying (show Try.prog.underlying 63 = some (.map 68 4) by kernel_rfl), hg, hset]

end Go.Proofs.Ytjeiakfdjbnkaaa

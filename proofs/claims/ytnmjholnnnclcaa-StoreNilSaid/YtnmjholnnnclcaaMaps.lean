/- Maps whose keys are structs or arrays: what a map's block reads as, and what look-up and store do. Plain lemmas, no program. -/
import Derived.Test.YtnmjholnnnclcaaKinds
import Derived.WideKeyRuns
import Derived.Carry
import Derived.Maps.RangeRun
set_option linter.unusedVariables false
set_option linter.unusedSimpArgs false
namespace Go.Proofs.Ytnmjholnnnclcaa
open Go.RowKit

/-- Keys of type kt: how they are written, and that the machine tells them apart. -/
structure Keys (P : Program) (kt : TypeId) {α : Type} [DecidableEq α] (enc : α → Value) : Prop where
  wide : (match P.underlying kt with | some (.array _ _) | some (.struct _) => true | _ => false) = true
  eq : ∀ x y w, (Op.equal kt (enc x) (enc y)).run P w = .ok (decide (x = y)) w
  chk : ∀ em x w, (Instr.checkKey em 10000 kt (enc x)).run P w = .ok () w
  same : ∀ x, Instr.sameBits 10000 (enc x) (enc x) = true

section
variable {α : Type} {enc : α → Value}
/-- Block b is a map that reads as l. -/
def MapIs (enc : α → Value) (w : World) (b : Nat) (l : List (α × Value)) : Prop := ∃ es clock, w.heap[b]? = some (.map es clock) ∧ es.toList.map (fun e => (e.key, e.val)) = l.map (fun p => (enc p.1, p.2))
theorem MapIs.kept {w w1 : World} {F : Nat → Prop} {b : Nat} {l : List (α × Value)} (h : MapIs enc w b l) (hk : Kept F w w1) (hb : ¬ F b) : MapIs enc w1 b l := by
  obtain ⟨es, clock, h1, h2⟩ := h
  exact ⟨es, clock, (hk.block _ (lt_of_heap h1) hb).trans h1, h2⟩
theorem MapIs.new {w w1 : World} {b : Nat} {l : List (α × Value)} (h : MapIs enc w b l) (hk : Kept No w w1) : MapIs enc w1 b l := h.kept hk id
theorem MapIs.lt {w : World} {b : Nat} {l : List (α × Value)} (h : MapIs enc w b l) : b < w.heap.size := by obtain ⟨_, _, h1, _⟩ := h; exact lt_of_heap h1
end
section
variable {α : Type} [DecidableEq α] {P : Program} {kt : TypeId} {enc : α → Value}
def findL (x : α) : List (α × Value) → Nat → Option (Nat × Value)
  | [], _ => none
  | (y, v) :: l, i => if x = y then some (i, v) else findL x l (i + 1)
def getL (l : List (α × Value)) (x : α) : Option Value := (findL x l 0).map (·.2)
/-- The list behind a store. -/
def putL (x : α) (v : Value) : List (α × Value) → List (α × Value)
  | [] => [(x, v)]
  | (y, u) :: l => if x = y then (y, v) :: l else (y, u) :: putL x v l
theorem run_findAsking (hk : Keys P kt enc) (x : α) (w : World) : ∀ (es : List MapEntry) (l : List (α × Value)) (i : Nat), es.map (fun e => (e.key, e.val)) = l.map (fun p => (enc p.1, p.2)) →
    (Instr.findAsking kt (enc x) es i).run P w = .ok (findL x l i) w := by
  intro es
  induction es with
  | nil =>
    intro l i h
    cases l with
    | nil => rfl
    | cons p l => simp at h
  | cons e es ih =>
    intro l i h
    cases l with
    | nil => simp at h
    | cons p l =>
      obtain ⟨y, v⟩ := p
      simp only [List.map_cons, List.cons.injEq, Prod.mk.injEq] at h
      obtain ⟨⟨h1, h2⟩, h3⟩ := h
      simp only [Instr.findAsking, Sem.run_bind, h1, hk.eq, Result.andThen, findL]
      by_cases e1 : x = y
      · simp [e1, h2]
      · simp only [e1, decide_false, Bool.false_eq_true, if_false]
        exact ih l (i + 1) h3

theorem run_lookup_is (hk : Keys P kt enc) {mt et : TypeId} {z : Value} (hm : P.underlying mt = some (.map kt et)) (hz : (P.info? et).bind (·.zero) = some z) {w : World} {b : Nat} {l : List (α × Value)} (h : MapIs enc w b l) (x : α) :
    (Instr.lookup mt (.map (some b)) (enc x) true).run P w = .ok (.tuple #[(getL l x).getD z, .bool (getL l x).isSome]) w := by
  obtain ⟨es, clock, h1, h2⟩ := h
  have hf : (Instr.findKey kt (enc x) es.toList).run P w = .ok (findL x l 0) w := by rw [run_findKey_eq w hk.wide, run_findAsking hk x w _ l 0 h2]
  obtain ⟨i, hi, hiz⟩ := Option.bind_eq_some_iff.1 hz
  simp only [Instr.lookup, Sem.run_bind, run_underlying hm, Result.andThen, getL]
  simp [getObj, Sem.run, Sem.run_bind, h1, hk.chk, hf]
  cases findL x l 0 with
  | none => simp [zeroValue, typeInfo, hi, hiz]
  | some p => simp
theorem findL_none {x : α} {v : Value} : ∀ {l : List (α × Value)} {i : Nat}, findL x l i = none → putL x v l = l ++ [(x, v)]
  | [], _, _ => rfl
  | (y, u) :: l, i, h => by
    simp only [findL] at h
    by_cases e : x = y
    · rw [if_pos e] at h; cases h
    · rw [if_neg e] at h
      simp only [putL, if_neg e, List.cons_append]
      rw [findL_none h]
theorem findL_some {x : α} {v : Value} : ∀ {l : List (α × Value)} {i j : Nat} {u : Value}, findL x l i = some (j, u) → ∃ k, j = i + k ∧ l[k]? = some (x, u) ∧ putL x v l = l.set k (x, v)
  | [], _, _, _, h => by simp [findL] at h
  | (y, u0) :: l, i, j, u, h => by
    simp only [findL] at h
    by_cases e : x = y
    · rw [if_pos e] at h
      simp only [Option.some.injEq, Prod.mk.injEq] at h
      obtain ⟨rfl, rfl⟩ := h
      subst e
      exact ⟨0, rfl, rfl, by simp [putL]⟩
    · rw [if_neg e] at h
      obtain ⟨k, h1, h2, h3⟩ := findL_some (v := v) h
      exact ⟨k + 1, by omega, by simpa using h2, by simp only [putL, if_neg e, List.set_cons_succ]; rw [h3]⟩
theorem run_update_is (hk : Keys P kt enc) {mt et : TypeId} (hm : P.underlying mt = some (.map kt et)) {w : World} {b : Nat} {l : List (α × Value)} (h : MapIs enc w b l) (x : α) (v : Value) :
    ∃ w', (Instr.mapUpdate mt (.map (some b)) (enc x) v).run P w = .ok () w' ∧ MapIs enc w' b (putL x v l) ∧ Kept (fun k => k = b) w w' := by
  obtain ⟨es, clock, h1, h2⟩ := h
  have hf : (Instr.findKey kt (enc x) es.toList).run P w = .ok (findL x l 0) w := by rw [run_findKey_eq w hk.wide, run_findAsking hk x w _ l 0 h2]
  have hkp : ∀ o, Kept (fun k => k = b) w { w with heap := w.heap.setIfInBounds b o } := fun o => ⟨rfl, rfl, rfl, by simp, fun k hk hn => by simp [Array.getElem?_setIfInBounds, Ne.symm hn]⟩
  have hat : ∀ o, ({ w with heap := w.heap.setIfInBounds b o } : World).heap[b]? = some o := fun o => by simp [Array.getElem?_setIfInBounds, lt_of_heap h1]
  have hlen : es.toList.length = l.length := by have := congrArg List.length h2; simpa using this
  cases hf0 : findL x l 0 with
  | none =>
    rw [hf0] at hf
    refine ⟨_, ?_, ⟨es.push ⟨enc x, v, clock⟩, clock + 1, hat _, ?_⟩, hkp _⟩
    · simp [Instr.mapUpdate, run_underlying hm, MapKept.run_getObj_map h1, hk.chk, hf, MapKept.run_setObj_map _ h1, Result.andThen]
    · rw [findL_none hf0, Array.toList_push, List.map_append, h2]; simp
  | some p =>
    obtain ⟨j, u⟩ := p
    rw [hf0] at hf
    obtain ⟨k, hj, hl, hp⟩ := findL_some (v := v) hf0
    have hjk : j = k := by omega
    subst hjk
    obtain ⟨e0, he0⟩ : ∃ e0, es.toList[j]? = some e0 := ⟨_, List.getElem?_eq_getElem (by rw [hlen]; exact (List.getElem?_eq_some_iff.1 hl).1)⟩
    have hek : e0.key = enc x := by
      have h3 := congrArg (fun q => q[j]?) h2
      simp only [List.getElem?_map, he0, hl, Option.map_some, Option.some.injEq, Prod.mk.injEq] at h3
      exact h3.1
    have he0' : es[j]? = some e0 := by simpa using he0
    have hst : (Instr.keyThatStays (enc x) (enc x)).run P w = .ok (enc x) w := by simp [Instr.keyThatStays, hk.same]
    refine ⟨_, ?_, ⟨es.modify j (fun e => { e with key := enc x, val := v }), clock, hat _, ?_⟩, hkp _⟩
    · simp [Instr.mapUpdate, run_underlying hm, MapKept.run_getObj_map h1, hk.chk, hf, he0', hek, hst, MapKept.run_setObj_map _ h1, Result.andThen]
    · rw [hp]
      apply List.ext_getElem?
      intro i
      have h3 := congrArg (fun q => q[i]?) h2
      simp only [List.getElem?_map] at h3
      simp only [List.getElem?_map, Array.toList_modify, List.getElem?_modify, List.getElem?_set]
      by_cases e : j = i
      · subst e
        simp [he0, (List.getElem?_eq_some_iff.1 hl).1]
      · simp only [e, if_false]
        simpa [e] using h3
end
end Go.Proofs.Ytnmjholnnnclcaa

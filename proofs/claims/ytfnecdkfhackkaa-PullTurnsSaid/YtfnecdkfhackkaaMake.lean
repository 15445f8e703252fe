/- make([]T, n): n zeros, the call's own. Plain lemmas, no program. -/
import Derived.Test.YtfnecdkfhackkaaKinds
set_option linter.unusedVariables false
set_option linter.unusedSimpArgs false
namespace Go.Proofs.Ytfnecdkfhackkaa
open Go.RowKit

theorem made_chunk (z : Array Value) (n j : Nat) (hj : j < n) : ((madeCells z (n * z.size)).toList.drop (j * z.size)).take z.size = z.toList := by
  have hle : j * z.size + z.size ≤ n * z.size := by rw [← Nat.succ_mul]; exact Nat.mul_le_mul_right _ hj
  apply List.ext_getElem?
  intro i
  rw [List.getElem?_take, List.getElem?_drop]
  by_cases hi : i < z.size
  · rw [if_pos hi]
    have hlt : j * z.size + i < n * z.size := by omega
    simp only [madeCells, Array.getElem?_toList, Array.getElem?_map]
    rw [Array.getElem?_range, if_pos hlt]
    simp only [Option.map_some]
    rw [Nat.add_comm, Nat.add_mul_mod_self_right, Nat.mod_eq_of_lt hi]
    simp [hi]
  · rw [if_neg hi]
    simp
    omega
section
variable {P : Program}
theorem wpList_make_tws {α : Type} {d : Kd α} {w : World} {ops : Array Oper} {rest : List Oper} {o : Oper} {a : Act} {Q : Exit → Act → World → Prop} (hg : o.guard = none) (l c : Operand) (t : TypeId) (hop : o.op = Op.makeSlice t l c)
    (e : TypeId) (z : Value) (bytes : Nat) (ht : P.underlying t = some (.slice e)) (hinfo : (P.info? e).map (fun i => (i.zero, i.size, i.bytes)) = some (some z, d.sz, bytes)) (hzs : z.cells.size = d.sz)
    (z0 : α) (hz : ∀ W, d.K W No z0 z.cells.toList) (n : Nat) (hl : a.eval l = .int .i64 n) (hc : a.eval c = .int .i64 n) (hb : bytes * n ≤ 281474976710656) (hn : n ≤ maxLen)
    (h : ∀ w', TW d e w' No (.slice (some ⟨w.heap.size, 0, none⟩) n n) (List.replicate n z0) → Kept No w w' → (∃ cur, w'.heap[w.heap.size]? = some (.cells cur e (0, 0)) ∧ cur.size = n * d.sz) → wpList P ops Q rest (a.put o.dst (.slice (some ⟨w.heap.size, 0, none⟩) n n)) w') :
    wpList P ops Q (o :: rest) a w := by
  obtain ⟨i, hi, hi2⟩ := Option.map_eq_some_iff.1 hinfo
  simp only [Prod.mk.injEq] at hi2
  obtain ⟨h3, h4, h5⟩ := hi2
  refine wpList_make_full w hg l c t hop w.heap.size e i z d.sz ht hi h3 h4 .i64 .i64 n n n hl hc rfl rfl (by rw [h5]; exact hb) hn (Nat.le_refl _) fun w' hr hgr => ?_
  suffices hh : TW d e w' No (.slice (some ⟨w.heap.size, 0, none⟩) n n) (List.replicate n z0) ∧ ∃ cur, w'.heap[w.heap.size]? = some (.cells cur e (0, 0)) ∧ cur.size = n * d.sz from h w' hh.1 ((Kept.refl _ _).grown hgr fun k hk _ => by cases hk) hh.2
  obtain ⟨hlen, hr⟩ := hr
  rcases hr with ⟨hv, _⟩ | ⟨g, cap, cur, hv, hbase, hg', hn', hcap, hsz, htk⟩
  · cases hv
  · simp only [Value.slice.injEq, Option.some.injEq, Addr.mk.injEq] at hv
    obtain ⟨⟨rfl, _⟩, _, rfl⟩ := hv
    refine ⟨⟨(madeCells z.cells (n * d.sz)).toList, ?_, ⟨?_, ?_⟩, fun _ _ h => h⟩, _, hg', hsz⟩
    · have := Win.made (e := e) (size := d.sz) hg' (Nat.le_refl n) hcap (by omega)
      rw [htk] at this
      simpa using this
    · simp [size_madeCells]
    · intro j p hp
      obtain ⟨hj, hp⟩ := List.getElem?_eq_some_iff.1 hp
      have hj' : j < n := by simpa using hj
      have : p = z0 := by rw [← hp]; simp
      subst this
      rw [← hzs, made_chunk _ _ _ hj']
      exact hz _
theorem wpList_make_tw {α : Type} {d : Kd α} {w : World} {ops : Array Oper} {rest : List Oper} {o : Oper} {a : Act} {Q : Exit → Act → World → Prop} (hg : o.guard = none) (l c : Operand) (t : TypeId) (hop : o.op = Op.makeSlice t l c)
    (e : TypeId) (z : Value) (bytes : Nat) (ht : P.underlying t = some (.slice e)) (hinfo : (P.info? e).map (fun i => (i.zero, i.size, i.bytes)) = some (some z, d.sz, bytes)) (hzs : z.cells.size = d.sz)
    (z0 : α) (hz : ∀ W, d.K W No z0 z.cells.toList) (n : Nat) (hl : a.eval l = .int .i64 n) (hc : a.eval c = .int .i64 n) (hb : bytes * n ≤ 281474976710656) (hn : n ≤ maxLen)
    (h : ∀ w', TW d e w' No (.slice (some ⟨w.heap.size, 0, none⟩) n n) (List.replicate n z0) → Kept No w w' → wpList P ops Q rest (a.put o.dst (.slice (some ⟨w.heap.size, 0, none⟩) n n)) w') :
    wpList P ops Q (o :: rest) a w := wpList_make_tws hg l c t hop e z bytes ht hinfo hzs z0 hz n hl hc hb hn fun w' h1 h2 _ => h w' h1 h2
end
theorem kI_zero (k : IntKind) (hk : InR k 0) : ∀ W, (kI k).K W No 0 (Value.int k 0).cells.toList := fun W => ⟨rfl, hk⟩
end Go.Proofs.Ytfnecdkfhackkaa

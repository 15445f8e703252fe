/- Words for memory: what a slice reads as, a row that the call owns (from whatever place in its block), and append on it. Plain lemmas, no program. -/
import Derived.Test.YtfnecdkfhackkaaReg
import Derived.Laws.CopyRow
import Derived.Laws.OwnMore
import Derived.Laws.Rows
import Derived.Laws.ResultCell
import Derived.WalkLawsBesides
import Derived.WalkSpells
import Derived.Outline
set_option linter.unusedVariables false
set_option linter.unusedSimpArgs false
namespace Go.Proofs.Ytfnecdkfhackkaa
open Go.RowKit

theorem kcell {W w1 : World} (hb : Kept No W w1) : (∀ b o, b < W.heap.size → w1.cell? ⟨b, o, none⟩ = W.cell? ⟨b, o, none⟩) := fun b o h => hb.cell_eq h id
theorem kcellF {F : Nat → Prop} {W w1 : World} (hb : Kept F W w1) : (∀ b o, b < W.heap.size → ¬ F b → w1.cell? ⟨b, o, none⟩ = W.cell? ⟨b, o, none⟩) := fun b o h hf => hb.cell_eq h hf
theorem kfro {W w1 : World} (hb : Kept No W w1) : (∀ b o, b < W.heap.size → w1.frozen? ⟨b, o, none⟩ = W.frozen? ⟨b, o, none⟩) := fun b o h => hb.frozen_eq h id
theorem kfroF {F : Nat → Prop} {W w1 : World} (hb : Kept F W w1) : (∀ b o, b < W.heap.size → ¬ F b → w1.frozen? ⟨b, o, none⟩ = W.frozen? ⟨b, o, none⟩) := fun b o h hf => hb.frozen_eq h hf
theorem lt_of_heap {w : World} {g : Nat} {o : Obj} (h : w.heap[g]? = some o) : g < w.heap.size := (Array.getElem?_eq_some_iff.1 h).1

/-! ### Cells that a slice's value leads to -/
/-- x is a slice of m elements, of 'size' cells each, in a block of F; its cells hold 'cs'. -/
def Src (w : World) (F : Nat → Prop) (size : Nat) (x : Value) (m : Nat) (cs : List Value) : Prop :=
  ∃ A c, x = .slice A m c ∧ m ≤ c ∧ c ≤ maxLen ∧ cs.length = m * size ∧ (∀ u ∈ cs, u.oneCell' = true) ∧
    (0 < cs.length → ∃ b off, A = some ⟨b, off, none⟩ ∧ F b ∧ ∀ j u, cs[j]? = some u → w.cell? ⟨b, off + j, none⟩ = some u)

theorem Src.move {w w1 : World} {F : Nat → Prop} {size m : Nat} {x : Value} {cs : List Value} (h : Src w F size x m cs) (hm : ∀ k, F k → k < w.heap.size → w1.heap[k]? = w.heap[k]?) : Src w1 F size x m cs := by
  obtain ⟨A, c, rfl, h1, h2, h3, h4, h5⟩ := h
  refine ⟨A, c, rfl, h1, h2, h3, h4, fun hp => ?_⟩
  obtain ⟨b, off, e, hf, hc⟩ := h5 hp
  refine ⟨b, off, e, hf, fun j u hj => ?_⟩
  have h6 := hc j u hj
  exact (World.cell?_of_block (w := w) (a := ⟨b, off + j, none⟩) (hm b hf (World.block_lt_of_cell? w _ h6))).trans h6
theorem Src.mono {w : World} {F F' : Nat → Prop} {size m : Nat} {x : Value} {cs : List Value} (h : Src w F size x m cs) (hf : ∀ k, F k → k < w.heap.size → F' k) : Src w F' size x m cs := by
  obtain ⟨A, c, rfl, h1, h2, h3, h4, h5⟩ := h
  refine ⟨A, c, rfl, h1, h2, h3, h4, fun hp => ?_⟩
  obtain ⟨b, off, e, hb, hc⟩ := h5 hp
  obtain ⟨u, hu⟩ : ∃ u, cs[0]? = some u := ⟨cs[0], List.getElem?_eq_getElem hp⟩
  exact ⟨b, off, e, hf b hb (World.block_lt_of_cell? w _ (hc 0 u hu)), hc⟩
theorem Src.kept {w w1 : World} {F G : Nat → Prop} {size m : Nat} {x : Value} {cs : List Value} (h : Src w F size x m cs) (hk : Kept G w w1) (hd : ∀ k, F k → k < w.heap.size → ¬ G k) : Src w1 F size x m cs :=
  h.move fun k hf hlt => hk.block k hlt (hd k hf hlt)

/-- v is a slice of n elements at a place of a row that is the call's own: cells 'xs', type e. -/
def Win (w : World) (e : TypeId) (size : Nat) (v : Value) (n : Nat) (xs : List Value) : Prop :=
  xs.length = n * size ∧
  ((v = .slice none 0 0 ∧ n = 0) ∨
   ∃ g off cap cur, v = .slice (some ⟨g, off, none⟩) n cap ∧ w.heap[g]? = some (.cells cur e (0, 0)) ∧ n ≤ cap ∧ cap ≤ maxLen ∧ off + cap * size ≤ cur.size ∧ (cur.toList.drop off).take (n * size) = xs)

theorem Win.nil (w : World) (e : TypeId) (size : Nat) : Win w e size (.slice none 0 0) 0 [] := ⟨by simp, .inl ⟨rfl, rfl⟩⟩
theorem Win.move {w w1 : World} {e : TypeId} {size n : Nat} {v : Value} {xs : List Value} (h : Win w e size v n xs) (hm : ∀ k, v.ownBlock = some k → k < w.heap.size → w1.heap[k]? = w.heap[k]?) : Win w1 e size v n xs := by
  obtain ⟨h1, h2⟩ := h
  refine ⟨h1, ?_⟩
  rcases h2 with h2 | ⟨g, off, cap, cur, rfl, hg, r⟩
  · exact .inl h2
  · exact .inr ⟨g, off, cap, cur, rfl, (hm g (by simp [Value.ownBlock]) (lt_of_heap hg)).trans hg, r⟩
theorem Win.lt {w : World} {e : TypeId} {size n : Nat} {v : Value} {xs : List Value} (h : Win w e size v n xs) (k : Nat) (hk : v.ownBlock = some k) : k < w.heap.size ∧ ∃ cur, w.heap[k]? = some (.cells cur e (0, 0)) := by
  rcases h.2 with ⟨rfl, _⟩ | ⟨g, off, cap, cur, rfl, hg, _⟩
  · simp [Value.ownBlock] at hk
  · have : g = k := by simpa [Value.ownBlock] using hk
    subst this
    exact ⟨lt_of_heap hg, cur, hg⟩
theorem Win.kept {w w1 : World} {F : Nat → Prop} {e : TypeId} {size n : Nat} {v : Value} {xs : List Value} (h : Win w e size v n xs) (hk : Kept F w w1) (hf : ∀ k, v.ownBlock = some k → ¬ F k) : Win w1 e size v n xs :=
  h.move fun k hb hlt => hk.block k hlt (hf k hb)
theorem Win.slice {w : World} {e : TypeId} {size n : Nat} {v : Value} {xs : List Value} (h : Win w e size v n xs) : ∃ A c, v = .slice A n c ∧ n ≤ c ∧ c ≤ maxLen := by
  rcases h.2 with ⟨rfl, rfl⟩ | ⟨g, off, cap, cur, rfl, hg, h1, h2, _⟩
  · exact ⟨none, 0, rfl, Nat.le_refl _, Nat.zero_le _⟩
  · exact ⟨_, cap, rfl, h1, h2⟩
theorem Win.cell {w : World} {e : TypeId} {size n : Nat} {g off cap : Nat} {xs : List Value} (h : Win w e size (.slice (some ⟨g, off, none⟩) n cap) n xs) (j : Nat) (u : Value) (hj : xs[j]? = some u) : w.cell? ⟨g, off + j, none⟩ = some u := by
  rcases h.2 with ⟨h0, _⟩ | ⟨g', off', cap', cur, hv, hg, h1, h2, h3, h4⟩
  · cases h0
  · simp only [Value.slice.injEq, Option.some.injEq, Addr.mk.injEq] at hv
    obtain ⟨⟨rfl, rfl, _⟩, _, rfl⟩ := hv
    rw [← h4, List.getElem?_take] at hj
    split at hj
    · rw [List.getElem?_drop] at hj
      rw [cell_of_row w _ _ _ _ _ hg]
      simpa using hj
    · cases hj
theorem Win.src {w : World} {e : TypeId} {size n : Nat} {v : Value} {xs : List Value} (h : Win w e size v n xs) (h1 : ∀ u ∈ xs, u.oneCell' = true) : Src w (fun k => v.ownBlock = some k) size v n xs := by
  have h' := h
  obtain ⟨hl, h2⟩ := h
  rcases h2 with ⟨rfl, rfl⟩ | ⟨g, off, cap, cur, rfl, hg, h3, h4, h5, h6⟩
  · exact ⟨none, 0, rfl, Nat.le_refl _, Nat.zero_le _, hl, h1, fun hp => by simp at hl; subst hl; simp at hp⟩
  · exact ⟨_, cap, rfl, h3, h4, hl, h1, fun _ => ⟨g, off, rfl, rfl, fun j u hj => h'.cell j u hj⟩⟩
/-- A row that was just laid. -/
theorem Win.made {w : World} {e : TypeId} {size g n cap : Nat} {cur : Array Value} (hg : w.heap[g]? = some (.cells cur e (0, 0))) (hn : n ≤ cap) (hm : cap ≤ maxLen) (hs : cap * size ≤ cur.size) :
    Win w e size (.slice (some ⟨g, 0, none⟩) n cap) n (cur.toList.take (n * size)) :=
  ⟨by rw [List.length_take, Array.length_toList]; have := Nat.mul_le_mul_right size hn; omega, .inr ⟨g, 0, cap, cur, rfl, hg, hn, hm, by omega, by simp⟩⟩

section
variable {P : Program}

theorem run_firstCells_src {w : World} {F : Nat → Prop} {size m : Nat} {x : Value} {cs : List Value} (h : Src w F size x m cs) : (Builtin.firstCells size m x).run P w = .ok cs.toArray w := by
  obtain ⟨A, c, rfl, h1, h2, h3, _, h5⟩ := h
  rcases Nat.eq_zero_or_pos cs.length with h0 | h0
  · have hc : cs = [] := List.eq_nil_of_length_eq_zero h0
    subst hc
    cases A with
    | none => exact run_firstCells_none w size m m c
    | some a => exact run_firstCells_some w size m a m c [] h3 (fun j v hj => by simp at hj)
  · obtain ⟨b, off, rfl, _, hc⟩ := h5 h0
    exact run_firstCells_some w size m ⟨b, off, none⟩ m c cs h3 (fun j v hj => by rw [Addr.add_lit]; exact hc j v hj)

theorem take_drop_put {α : Type} (cur news : List α) (off k : Nat) (hk : off + k + news.length ≤ cur.length) :
    ((cur.take (off + k) ++ news ++ cur.drop (off + k + news.length)).drop off).take (k + news.length) = (cur.drop off).take k ++ news := by
  rw [List.append_assoc, List.drop_append_of_le_length (by rw [List.length_take]; omega), List.drop_take]
  have h1 : off + k - off = k := by omega
  rw [h1, ← List.append_assoc, List.take_append_of_le_length (by rw [List.length_append, List.length_take, List.length_drop]; omega)]
  exact List.take_of_length_le (by rw [List.length_append, List.length_take, List.length_drop]; omega)

theorem win_append {w : World} {F : Nat → Prop} (t ty e : TypeId) (i : TypeInfo) (z : Value) (size bytes : Nat) (ht : P.underlying t = some (.slice e)) (hi : P.info? e = some i) (hz : i.zero = some z)
    (hsize : i.size = size) (hby : i.bytes = bytes) (hzs : z.cells.size = size)
    {v x : Value} {n m : Nat} {xs news : List Value} (hv : Win w e size v n xs) (hx : Src w F size x m news)
    (h63 : n + m ≤ maxLen) (hbytes : (n + m) * bytes ≤ 140737488355328) :
    ∃ v' w', (Builtin.append_ #[t, t] ty #[v, x]).run P w = .ok v' w' ∧ Win w' e size v' (n + m) (xs ++ news) ∧ w.grownBy w' v.ownBlock ∧ (v'.ownBlock = v.ownBlock ∨ v'.ownBlock = some w.heap.size) := by
  subst hsize
  subst hby
  have hsmall : n + m ≤ 9223372036854775807 := by simp only [maxLen] at h63; omega
  have hfx := run_firstCells_src (P := P) hx
  have hfx2 := run_firstCells_src (P := P) (w := w.drew) (F := F) (hx.move fun _ _ _ => rfl)
  obtain ⟨A, c, rfl, hmc, hcm, hl, h1, _⟩ := hx
  have hlen : (xs ++ news).length = (n + m) * i.size := by rw [List.length_append, hv.1, hl, Nat.add_mul]
  -- where it grows
  have grown : ∀ (old : Nat), old < n + m → ∀ (row : Option Nat),
      Win (w.drew.alloc (.cells (xs.toArray ++ news.toArray ++ Builtin.zeroCells z.cells (grownCap w (n + m) old e - (n + m))) e)) e i.size
        (.slice (some ⟨w.heap.size, 0, none⟩) (n + m) (grownCap w (n + m) old e)) (n + m) (xs ++ news) ∧
      w.grownBy (w.drew.alloc (.cells (xs.toArray ++ news.toArray ++ Builtin.zeroCells z.cells (grownCap w (n + m) old e - (n + m))) e)) row := by
    intro old ho row
    have hge := grownCap_ge w (n + m) old e
    have hcm : grownCap w (n + m) old e ≤ maxLen := grownCap_le_maxLen w (n + m) old e h63
    refine ⟨⟨hlen, .inr ⟨w.heap.size, 0, _, _, rfl, heap_alloc_new w.drew _, hge, hcm, ?_, ?_⟩⟩, ⟨rfl, rfl, rfl, by simp, fun k hk _ => Below.heap_alloc w.drew _ k hk⟩⟩
    · simp only [Array.size_append, List.size_toArray, size_zeroCells, hzs, hv.1, hl, ← Nat.add_mul, Nat.zero_add]
      rw [Nat.add_sub_cancel' hge]
      exact Nat.le_refl _
    · simp only [Array.toList_append, List.append_assoc, List.drop_zero]
      rw [← List.append_assoc, ← hlen]
      exact List.take_left
  have grow_run : ∀ (b : Option Addr) (old : Nat), old < n + m → (Builtin.firstCells i.size n (.slice b n old)).run P w.drew = .ok xs.toArray w.drew → Builtin.nextslicecap (n + m) old * i.bytes ≤ 281474976710656 →
      (Builtin.append_ #[t, t] ty #[.slice b n old, .slice A m c]).run P w = .ok (.slice (some ⟨w.heap.size, 0, none⟩) (n + m) (grownCap w (n + m) old e))
        (w.drew.alloc (.cells (xs.toArray ++ news.toArray ++ Builtin.zeroCells z.cells (grownCap w (n + m) old e - (n + m))) e)) := by
    intro b old ho hfo hfit
    have hn : ¬ (n + m ≤ old) := by omega
    have h63' : ¬ (9223372036854775807 < ((n : Int) + (m : Int))) := by omega
    have h48' : ¬ (281474976710656 < Builtin.nextslicecap (n + m) old * i.bytes) := by omega
    simp [Builtin.append_, run_underlying ht, sizeOf, typeInfo, zeroValue, hi, hz, Builtin.lenOf, hn, h63', h48', Question.forced, hfo, hfx2, newRow, grownCap, ← List.append_toArray]
  rcases hv.2 with ⟨rfl, rfl⟩ | ⟨g, off, cap, cur, rfl, hg, hnc, hcm, hcs, htake⟩
  · have hxs : xs = [] := List.eq_nil_of_length_eq_zero (by simpa using hv.1)
    subst hxs
    rcases Nat.eq_zero_or_pos m with hm | hm
    · subst hm
      have hn : news = [] := List.eq_nil_of_length_eq_zero (by simpa using hl)
      subst hn
      refine ⟨.slice none 0 0, w, ?_, Win.nil w e i.size, ⟨rfl, rfl, rfl, Nat.le_refl _, fun _ _ _ => rfl⟩, .inl rfl⟩
      simp [Builtin.append_, run_underlying ht, sizeOf, typeInfo, hi, Builtin.lenOf, hfx]
    · have hr := grow_run none 0 (by omega) (run_firstCells_none w.drew i.size 0 0 0) (growslice_fits (by omega) hbytes)
      have hgr := grown 0 (by omega) (Value.ownBlock (.slice none 0 0))
      exact ⟨_, _, hr, hgr.1, hgr.2, .inr rfl⟩
  · by_cases hroom : n + m ≤ cap
    · have hfit : off + n * i.size + news.length ≤ cur.size := by
        have := Nat.mul_le_mul_right i.size hroom
        rw [Nat.add_mul] at this
        omega
      have hst := run_storeCells_at P g (off + n * i.size) e news 0 cur w hg (by simpa using hfit) h1
      simp only [Nat.add_zero] at hst
      refine ⟨.slice (some ⟨g, off, none⟩) (n + m) cap, w.setRow g (cur.toList.take (off + n * i.size) ++ news ++ cur.toList.drop (off + n * i.size + news.length)).toArray, ?_,
        ⟨hlen, .inr ⟨g, off, cap, _, rfl, setRow_heap w g cur _ e _ hg, hroom, hcm, ?_, ?_⟩⟩,
        ⟨rfl, rfl, rfl, by simp, fun k _ hk => setRow_other w g k _ (fun e => hk (by simp [Value.ownBlock, e]))⟩, .inl rfl⟩
      · simp [Builtin.append_, run_underlying ht, sizeOf, typeInfo, hi, Builtin.lenOf, hroom, hfx, Addr.add_lit, hst]
      · simp only [List.size_toArray, List.length_append, List.length_take, List.length_drop, Array.length_toList]
        omega
      · have h7 := take_drop_put cur.toList news off (n * i.size) (by simpa using hfit)
        rw [htake] at h7
        rw [Nat.add_mul, ← hl]
        exact h7
    · have hfo : (Builtin.firstCells i.size n (.slice (some ⟨g, off, none⟩) n cap)).run P w.drew = .ok xs.toArray w.drew :=
        run_firstCells_some w.drew i.size n ⟨g, off, none⟩ n cap xs hv.1 (fun j u hj => by rw [Addr.add_lit]; exact hv.cell j u hj)
      have hr := grow_run (some ⟨g, off, none⟩) cap (by omega) hfo (growslice_fits (by omega) hbytes)
      have hgr := grown cap (by omega) (Value.ownBlock (.slice (some ⟨g, off, none⟩) n cap))
      exact ⟨_, _, hr, hgr.1, hgr.2, .inr rfl⟩

/-- At the walk: append of a slice onto a row of the call's own, or nil. -/
theorem wpList_append_win {w : World} {F : Nat → Prop} {ops : Array Oper} {rest : List Oper} {o : Oper} {a : Act} {Q : Exit → Act → World → Prop} (hgd : o.guard = none) (s x : Operand) (t : TypeId)
    (ho : o.op = .call { callee := .builtin .append, args := #[s, x], argTypes := #[t, t] })
    (e : TypeId) (z : Value) (size bytes : Nat) (ht : P.underlying t = some (.slice e)) (hinfo : (P.info? e).map (fun i => (i.zero, i.size, i.bytes)) = some (some z, size, bytes)) (hzs : z.cells.size = size)
    (v y : Value) (n m : Nat) (xs news : List Value) (hs : a.eval s = v) (hv : Win w e size v n xs) (hx : a.eval x = y) (hy : Src w F size y m news)
    (h63 : n + m ≤ maxLen) (hbytes : (n + m) * bytes ≤ 140737488355328)
    (h : ∀ v' w', Win w' e size v' (n + m) (xs ++ news) → w.grownBy w' v.ownBlock → (v'.ownBlock = v.ownBlock ∨ v'.ownBlock = some w.heap.size) → wpList P ops Q rest (a.put o.dst v') w') : wpList P ops Q (o :: rest) a w := by
  obtain ⟨i0, hi, hzz⟩ := Option.map_eq_some_iff.1 hinfo
  simp only [Prod.mk.injEq] at hzz
  obtain ⟨hz0, hz1, hz2⟩ := hzz
  obtain ⟨v', w', hr, h1, h2, h3⟩ := win_append (P := P) t o.type e i0 z size bytes ht hi hz0 hz1 hz2 hzs hv hy h63 hbytes
  refine wpList_plain hgd fun K hK => ?_
  have hrun : (execOp a.eval o).run P w = .ok (.value v') w' := by
    simp only [execOp, ho, resolve]
    simp [hs, hx, invoke, builtin, hr]
  simp only [Oper.wp, hrun, Oper.upon]
  exact hK _ _ (h v' w' h1 h2 h3)
end
end Go.Proofs.Ytfnecdkfhackkaa

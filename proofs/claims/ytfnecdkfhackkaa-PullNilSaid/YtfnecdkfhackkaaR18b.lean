/- The reference of the package matrix, second part: with, Gone, Tell. -/
import Derived.Test.YtfnecdkfhackkaaR18a
set_option linter.unusedVariables false
set_option linter.unusedSimpArgs false
namespace Go.Proofs.Ytfnecdkfhackkaa
open Go.RowKit

theorem info_x : (Try.prog.info? 54).map (fun i => (i.zero, i.size, i.bytes)) = some (some (.agg #[.int .u64 0, .slice none 0 0, .slice none 0 0, .bool false]), 4, 64) := by kernel_rfl
theorem agg54 {a b c d : Value} : Agg Try.prog 54 [a, b, c, d].length := Agg.mk' Try.underlying54 rfl (by kernel_rfl)
theorem TW.slF {α : Type} {d : Kd α} {e : TypeId} {w w' : World} {F : Nat → Prop} {v : Value} {xs : List α} (h : TW d e w' F v xs) (hf : Fresh w v) : Sl d w' (fun k => F k ∨ New w w' k) v xs :=
  h.sl.mono fun k hk hlt => hk.elim (fun e => .inr ⟨hf k e, hlt⟩) .inl

theorem TW.form {α : Type} {d : Kd α} {e : TypeId} {w : World} {G : Nat → Prop} {v : Value} {xs : List α} (h : TW d e w G v xs) (h0 : 0 < xs.length) : ∃ g off c, v = .slice (some ⟨g, off, none⟩) xs.length c ∧ xs.length ≤ c ∧ c ≤ 9223372036854775807 ∧ g < w.heap.size := by
  obtain ⟨cs, h1, _⟩ := h
  rcases h1.2 with ⟨_, h2⟩ | ⟨g, off, cap, cur, hv, hg, h3, h4, _⟩
  · omega
  · exact ⟨g, off, cap, hv, h3, by simpa only [maxLen] using h4, lt_of_heap hg⟩
theorem res_cell {P : Program} {fn : Func} {p : Tmp} {ty : TypeId} (h : fn.results = #[.cell p ty]) (tmps : Array Value) (w : World) (b off : Nat) (hp : tmps.getD p undef = .pointer (some ⟨b, off, none⟩)) (cs : List Value) (hA : Agg P ty cs.length)
    (hc : ∀ i u, cs[i]? = some u → w.cell? ⟨b, off + i, none⟩ = some u) : (results fn tmps).run P w = .ok (.agg cs.toArray) w := by
  simp only [results, h]
  have hp' : tmps[p]?.getD undef = .pointer (some ⟨b, off, none⟩) := by rw [← hp]; simp
  simp [Sem.run_bind, hp', asAddr, run_load_whole hA hc]
theorem res_cell_tmp {P : Program} {fn : Func} {p u : Tmp} {ty : TypeId} (h : fn.results = #[.cell p ty, .tmp u]) (tmps : Array Value) (w : World) (b off : Nat) (hp : tmps.getD p undef = .pointer (some ⟨b, off, none⟩)) (cs : List Value) (hA : Agg P ty cs.length)
    (hc : ∀ i u, cs[i]? = some u → w.cell? ⟨b, off + i, none⟩ = some u) : (results fn tmps).run P w = .ok (.tuple #[.agg cs.toArray, tmps.getD u undef]) w := by
  simp only [results, h]
  have hp' : tmps[p]?.getD undef = .pointer (some ⟨b, off, none⟩) := by rw [← hp]; simp
  simp [Sem.run_bind, hp', asAddr, run_load_whole hA hc]
theorem agg48 {a : Value} : Agg Try.prog 48 [a].length := Agg.mk' Try.underlying48 rfl (by kernel_rfl)
theorem one_cell {w : World} {b : Nat} {a : Value} (h : w.cell? ⟨b, 0, none⟩ = some a) : ∀ i u, [a][i]? = some u → w.cell? ⟨b, 0 + i, none⟩ = some u := by
  intro i u hu
  cases i with
  | zero => have : a = u := by simpa using hu
            subst this; exact h
  | succ i => simp at hu
theorem kRow_sl {w : World} {F : Nat → Prop} {r : Row} {a b c d : Value} (h : kRow.K w F r [a, b, c, d]) : Sl (kI .u64) w F b r.done ∧ Sl (kI .u64) w F c r.held ∧ InR .u64 r.inst := by
  obtain ⟨v1, v2, e, h0, h1, h2⟩ := h
  simp only [List.cons.injEq] at e
  obtain ⟨_, rfl, rfl, _⟩ := e
  exact ⟨h1, h2, h0⟩

set_option maxRecDepth 20000 in
set_option maxHeartbeats 1000000 in
theorem with_any (A : Option Addr) (n c p : Nat) (rows : List Row) (r : Row) (vd vh : Value) (w : World) (F : Nat → Prop) (h : Sl kRow w F (.slice A n c) rows) (hF : ∀ k, F k → k < w.heap.size) (hn : rows.length = n) (hn64 : n ≤ 64) (hp : p < n)
    (hx : kRow.K w F r [.int .u64 r.inst, vd, vh, .bool r.gone]) :
    Calls Try.prog 53 #[.agg #[.slice A n c], .int .i64 p, .agg #[.int .u64 r.inst, vd, vh, .bool r.gone]] w fun e w' => ∃ A' c', e = .returned (.agg #[.slice A' n c']) ∧ Sl kRow w' (fun k => F k ∨ New w w' k) (.slice A' n c') (rows.set p r) ∧ Kept No w w' := by
  obtain ⟨Ad, cd, rfl, _⟩ := (kRow_sl hx).1.slice
  obtain ⟨Ah, ch, rfl, _⟩ := (kRow_sl hx).2.1.slice
  obtain ⟨nd, hnd⟩ : ∃ m, m = r.done.length := ⟨_, rfl⟩
  obtain ⟨nh, hnh⟩ : ∃ m, m = r.held.length := ⟨_, rfl⟩
  rw [← hnd, ← hnh] at hx ⊢
  clear hnd hnh
  obtain ⟨w0, hw0⟩ : ∃ w0, w0 = (((w.alloc (.cells #[.slice A n c] 48)).alloc (.cells #[.int .u64 r.inst, .slice Ad nd cd, .slice Ah nh ch, .bool r.gone] 54)).alloc (.cells #[.slice none 0 0] 48)).alloc (.cells #[] 54) := ⟨_, rfl⟩
  have hk0 : Kept No w w0 := by rw [hw0]; exact ((((Kept.refl _ _).alloc _).alloc _).alloc _).alloc _
  have hs0 : w0.heap.size = w.heap.size + 1 + 1 + 1 + 1 := by rw [hw0]; simp
  have hsrc := h.new hk0
  have htw0 : TW kRow 54 w0 F (.slice (some ⟨w.heap.size + 1 + 1 + 1, 0, none⟩) 0 0) [] := by
    refine TW.empty (cur := #[]) ?_ (fun hh => by have := hF _ hh; omega)
    rw [hw0]
    have := heap_alloc_new (((w.alloc (.cells #[.slice A n c] 48)).alloc (.cells #[.int .u64 r.inst, .slice Ad nd cd, .slice Ah nh ch, .bool r.gone] 54)).alloc (.cells #[.slice none 0 0] 48)) (.cells #[] 54)
    simpa only [World.size_alloc] using this
  have hx0 : kRow.K w0 F r [.int .u64 r.inst, .slice Ad nd cd, .slice Ah nh ch, .bool r.gone] := kRow.move (fun k hk hlt => hk0.block k hlt id) hx
  have c0 : ∀ i u, [Value.int .u64 r.inst, .slice Ad nd cd, .slice Ah nh ch, .bool r.gone][i]? = some u → w0.cell? ⟨w.heap.size + 1, i, none⟩ = some u := by
    intro i u hu
    rw [hw0]
    refine (((Kept.refl No _).alloc _).alloc _).cell (w := (w.alloc (.cells #[.slice A n c] 48)).alloc (.cells #[.int .u64 r.inst, .slice Ad nd cd, .slice Ah nh ch, .bool r.gone] 54)) ?_ id
    have := heap_alloc_new (w.alloc (.cells #[.slice A n c] 48)) (.cells #[.int .u64 r.inst, .slice Ad nd cd, .slice Ah nh ch, .bool r.gone] 54)
    simp only [World.size_alloc] at this
    rw [cell_of_row _ _ i _ _ _ this]
    simpa using hu
  have h02 : w0.heap[w.heap.size + 1 + 1]? = some (.cells #[.slice none 0 0] 48 (0, 0)) := by
    rw [hw0]
    have := heap_alloc_new ((w.alloc (.cells #[.slice A n c] 48)).alloc (.cells #[.int .u64 r.inst, .slice Ad nd cd, .slice Ah nh ch, .bool r.gone] 54)) (.cells #[.slice none 0 0] 48)
    simp only [World.size_alloc] at this
    exact (Below.heap_alloc _ _ _ (by simp only [World.size_alloc]; omega)).trans this
  have c2 : w0.cell? ⟨w.heap.size + 1 + 1, 0, none⟩ = some (.slice none 0 0) := by rw [cell_of_row _ _ 0 _ _ _ h02]; rfl
  have f2 : w0.frozen? ⟨w.heap.size + 1 + 1, 0, none⟩ = false := frozen_of_row _ _ 0 _ _ h02
  obtain ⟨cs, hs1, hs2⟩ := hsrc
  rw [hn] at hs1
  have HW0 : Hid (w0 = (((w.alloc (.cells #[.slice A n c] 48)).alloc (.cells #[.int .u64 r.inst, .slice Ad nd cd, .slice Ah nh ch, .bool r.gone] 54)).alloc (.cells #[.slice none 0 0] 48)).alloc (.cells #[] 54)) := hw0
  have HS0 : Hid (w0.heap.size = w.heap.size + 1 + 1 + 1 + 1) := hs0
  have HH : Hid (Kept No w w0 ∧ TW kRow 54 w0 F (.slice (some ⟨w.heap.size + 1 + 1 + 1, 0, none⟩) 0 0) [] ∧ kRow.K w0 F r [.int .u64 r.inst, .slice Ad nd cd, .slice Ah nh ch, .bool r.gone] ∧ Src w0 F kRow.sz (.slice A n c) n cs ∧ Reps (kRow.K w0 F) kRow.sz rows cs ∧ rows.length = n ∧ (∀ k, F k → k < w0.heap.size)) := ⟨hk0, htw0, hx0, hs1, hs2, hn, fun k hk => by have := hF k hk; omega⟩
  have HC : Hid (∀ W, Kept (fun k => k = w.heap.size + 1 + 1 + 1) w0 W → W.cell? ⟨w.heap.size + 1, 0, none⟩ = some (.int .u64 r.inst) ∧ W.cell? ⟨w.heap.size + 1, 1, none⟩ = some (.slice Ad nd cd) ∧ W.cell? ⟨w.heap.size + 1, 2, none⟩ = some (.slice Ah nh ch) ∧ W.cell? ⟨w.heap.size + 1, 3, none⟩ = some (.bool r.gone) ∧ W.cell? ⟨w.heap.size + 1 + 1, 0, none⟩ = some (.slice none 0 0) ∧ W.frozen? ⟨w.heap.size + 1 + 1, 0, none⟩ = false) := by
    intro W hW
    have e1 : ¬ (fun k => k = w.heap.size + 1 + 1 + 1) (w.heap.size + 1) := fun e => by have e : w.heap.size + 1 = w.heap.size + 1 + 1 + 1 := e; omega
    have e2 : ¬ (fun k => k = w.heap.size + 1 + 1 + 1) (w.heap.size + 1 + 1) := fun e => by have e : w.heap.size + 1 + 1 = w.heap.size + 1 + 1 + 1 := e; omega
    exact ⟨hW.cell (c0 0 _ rfl) e1, hW.cell (c0 1 _ rfl) e1, hW.cell (c0 2 _ rfl) e1, hW.cell (c0 3 _ rfl) e1, hW.cell c2 e2, (hW.frozen_eq (by omega) e2).trans f2⟩
  have HFw : Hid (∀ k, F k → k < w.heap.size) := hF
  clear hk0 htw0 hx0 hs1 hs2 hn h hF hx c0 c2 f2 h02 hw0 hs0
  go_enter Try.func53, Try.ntmps53
  go_wp2_with (at_builtin; rw [← HW0.out]; go_must (refine wpList_append_tw (d := kRow) (G := F) (F := F) rfl (.tmp 8) (.tmp 10) 46 rfl 54 (.agg #[.int .u64 0, .slice none 0 0, .slice none 0 0, .bool false]) 64 Try.underlying46 info_x rfl _ _ n _ rows cs rfl HH.out.2.1 rfl HH.out.2.2.2.1 HH.out.2.2.2.2.1 HH.out.2.2.2.2.2.1 HH.out.2.2.2.2.2.2 ?_ ?_ ?_))
  · simp only [maxLen, List.length_nil]; omega
  · simp only [List.length_nil]; omega
  · intro v1 w1 htw1 hk1 hb1
    obtain ⟨g, off, c1, rfl, hc1, hc1m, hglt⟩ := htw1.form (by rw [HH.out.2.2.2.2.2.1]; omega)
    have hrn := HH.out.2.2.2.2.2.1
    rw [hrn] at htw1 hc1 ⊢
    have hk1' : Kept (fun k => k = w.heap.size + 1 + 1 + 1) w0 w1 := hk1.mono fun k _ e => by simp only [Value.ownBlock, Option.some.injEq] at e; exact e.symm
    have hgs : g = w.heap.size + 1 + 1 + 1 ∨ g = w0.heap.size := by simpa [Value.ownBlock, eq_comm] using hb1
    have hx1 : kRow.K w1 F r [.int .u64 r.inst, .slice Ad nd cd, .slice Ah nh ch, .bool r.gone] := kRow.move (fun k hk hlt => hk1'.block k hlt (fun e => by
      have e : k = w.heap.size + 1 + 1 + 1 := e
      obtain ⟨_, _, _, h4⟩ := HH.out.2.1
      exact h4 k (by rw [e]; rfl) hk)) HH.out.2.2.1
    obtain ⟨cur, hg, hfit, hT⟩ := htw1.set hrn hp hx1
    have HT : Hid (w1.heap[g]? = some (.cells cur 54 (0, 0)) ∧ off + p * 4 + 4 ≤ cur.size ∧ TW kRow 54 (w1.setRow g (cur.toList.take (off + p * 4) ++ ([.int .u64 r.inst, .slice Ad nd cd, .slice Ah nh ch, .bool r.gone] : List Value) ++ cur.toList.drop (off + p * 4 + 4)).toArray) F (.slice (some ⟨g, off, none⟩) n c1) (rows.set p r)) := ⟨hg, hfit, hT⟩
    have HK1 : Hid (Kept (fun k => k = w.heap.size + 1 + 1 + 1) w0 w1 ∧ (g = w.heap.size + 1 + 1 + 1 ∨ g = w0.heap.size)) := ⟨hk1', hgs⟩
    obtain ⟨g0, g1, g2, g3, _, _⟩ := HC.out w1 hk1'
    clear hg hfit hT htw1 hk1 hk1' hb1 hgs hx1 hrn
    go_wp2_with ((refine wpList_store_whole (by rfl) (.tmp 15) (.tmp 14) 54 (by rfl) g (off + p * 4) 54 (by rfl) [.int .u64 r.inst, .slice Ad nd cd, .slice Ah nh ch, .bool r.gone] (by rfl) agg54 cur HT.out.1 HT.out.2.1 (by simp [Value.oneCell']) ?_; intro w2 HW2; have hk2 : Kept (fun k => k = w.heap.size + 1 + 1 + 1) w0 w2 := (by rw [HW2.out]; exact HK1.out.1.setRow (fun hlt => (HK1.out.2.elim id (fun e => absurd hlt (by omega)))) _); obtain ⟨_, _, _, _, g4, g5⟩ := HC.out w2 hk2; have HK2 : Hid (Kept (fun k => k = w.heap.size + 1 + 1 + 1) w0 w2) := hk2; clear hk2))
    refine bodyPost_ret (res_cell (by rfl) _ _ (w.heap.size + 1 + 1) 0 (by rfl) [.slice (some ⟨g, off, none⟩) n c1] agg48 (one_cell (World.cell?_setCell_same _ _ _ g4))) rfl ?_
    have hT := HT.out.2.2
    rw [show (List.take (off + p * 4) cur.toList ++ ([Value.int .u64 r.inst, .slice Ad nd cd, .slice Ah nh ch, .bool r.gone] : List Value) ++ cur.toList.drop (off + p * 4 + 4)) = (List.take (off + p * 4) cur.toList ++ ([Value.int .u64 r.inst, .slice Ad nd cd, .slice Ah nh ch, .bool r.gone] : List Value) ++ cur.toList.drop (off + p * 4 + ([Value.int .u64 r.inst, .slice Ad nd cd, .slice Ah nh ch, .bool r.gone] : List Value).length)) from rfl, ← HW2.out] at hT
    have hgw : w.heap.size + 1 + 1 + 1 ≤ g := by rcases HK1.out.2 with e | e <;> have := HS0.out <;> omega
    have hS0 := HS0.out
    have hkw : Kept No w w2 := HH.out.1.trans2 HK2.out (fun i hi e => by have e : i = w.heap.size + 1 + 1 + 1 := e; omega)
    have hkz : Kept (fun k => k = w.heap.size + 1 + 1) w2 (w2.setCell ⟨w.heap.size + 1 + 1, 0, none⟩ (.slice (some ⟨g, off, none⟩) n c1)) := (Kept.refl (fun k => k = w.heap.size + 1 + 1) w2).setCell (p := ⟨w.heap.size + 1 + 1, 0, none⟩) (fun _ => rfl) _
    have hT2 := hT.kept hkz (fun k hk e => by simp only [Value.ownBlock, Option.some.injEq] at hk; have e : k = w.heap.size + 1 + 1 := e; omega) (fun k hk hlt e => by have := HH.out.2.2.2.2.2.2 k hk; have e : k = w.heap.size + 1 + 1 := e; exact absurd (HFw.out k hk) (by omega))
    exact ⟨_, _, rfl, hT2.slF (w := w) (fun k hk => by simp only [Value.ownBlock, Option.some.injEq] at hk; omega), hkw.trans2 hkz (fun i hi e => by have e : i = w.heap.size + 1 + 1 := e; omega)⟩
end Go.Proofs.Ytfnecdkfhackkaa
